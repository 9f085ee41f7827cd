/- Texts of the proof, put together: the abstract walk, contracts of the functions that the statement reaches, plain laws, part 3 of 4. -/
import Derived.Test.YtklecijcpkolfaaDoorLXb
import Derived.Lib.Strings
import Derived.Lib.Slices
import Derived.Lib.Walk
import Derived.Lib.Bytealg
import Derived.Shelf.Strconv.Atoi
import Derived.Shelf.Strings.OnBuilder
import Derived.Ground.NamesProg
import Derived.Test.YtklecijcpkolfaaDoorProg
import Derived.Lib.AtoiErrMem
import Derived.Laws.StructEq
/- Contracts of package lex and of its reference, part 1: bytes of some kinds; how far a text's bytes are of one. -/
set_option linter.unusedVariables false
set_option linter.unusedSimpArgs false
set_option linter.unusedSectionVars false
namespace Go.Proofs.YtklecijcpkolfaaDoor.Aw
open Go Go.RowKit
set_option maxRecDepth 10000
attribute [local irreducible] AWp AOL QS One AOLg QSg NX QX TRg TX AllO Fin3
/-- A byte's place in a text. -/
def idxY (s : ByteArray) (c : Int) : Int := Lib.indexByte s.data.toList c.toNat.toUInt8
def inY (k : ByteArray) (c : Int) : Bool := decide (0 ≤ idxY k c)
abbrev kFig : ByteArray := { data := #[48, 49, 50, 51, 52, 53, 54, 55, 56, 57] }
abbrev kLet : ByteArray := { data := #[97, 98, 99, 100, 101, 102, 103, 104, 105, 106, 107, 108, 109, 110, 111, 112, 113, 114, 115, 116, 117, 118, 119, 120, 121, 122, 65, 66, 67, 68, 69, 70, 71, 72, 73, 74, 75, 76, 77, 78, 79, 80, 81, 82, 83, 84, 85, 86, 87, 88, 89, 90] }
abbrev kInn : ByteArray := { data := #[97, 98, 99, 100, 101, 102, 103, 104, 105, 106, 107, 108, 109, 110, 111, 112, 113, 114, 115, 116, 117, 118, 119, 120, 121, 122, 65, 66, 67, 68, 69, 70, 71, 72, 73, 74, 75, 76, 77, 78, 79, 80, 81, 82, 83, 84, 85, 86, 87, 88, 89, 90, 48, 49, 50, 51, 52, 53, 54, 55, 56, 57, 95] }
abbrev kBlk : ByteArray := { data := #[32, 9, 10] }
abbrev kSig : ByteArray := { data := #[40, 41, 44, 124, 38, 126, 43, 45, 61, 42, 123, 125, 59, 58] }
def figB (z : Int) : Bool := decide (48 ≤ z ∧ z ≤ 57)
def letB (z : Int) : Bool := decide (97 ≤ z ∧ z ≤ 122 ∨ 65 ≤ z ∧ z ≤ 90)
def innB (z : Int) : Bool := decide ((97 ≤ z ∧ z ≤ 122 ∨ 65 ≤ z ∧ z ≤ 90) ∨ 48 ≤ z ∧ z ≤ 57 ∨ z = 95)
def blkB (z : Int) : Bool := decide (z = 32 ∨ z = 9 ∨ z = 10)
def sigB (z : Int) : Bool := decide (z = 40 ∨ z = 41 ∨ z = 44 ∨ z = 124 ∨ z = 38 ∨ z = 126 ∨ z = 43 ∨ z = 45 ∨ z = 61 ∨ z = 42 ∨ z = 123 ∨ z = 125 ∨ z = 59 ∨ z = 58)
theorem byte_all {p : Int → Bool} (h : ((List.range 256).all fun n => p n) = true) (c : Int) (h0 : 0 ≤ c) (h1 : c ≤ 255) : p c = true := by
  rw [List.all_eq_true] at h
  have := h c.toNat (List.mem_range.2 (by omega))
  rwa [Int.toNat_of_nonneg h0] at this
theorem inY_fig (c : Int) (h0 : 0 ≤ c) (h1 : c ≤ 255) : inY kFig c = figB c := by
  have := byte_all (p := fun c => inY kFig c == figB c) (by decide +kernel) c h0 h1
  simpa using this
theorem inY_let (c : Int) (h0 : 0 ≤ c) (h1 : c ≤ 255) : inY kLet c = letB c := by
  have := byte_all (p := fun c => inY kLet c == letB c) (by decide +kernel) c h0 h1
  simpa using this
theorem inY_inn (c : Int) (h0 : 0 ≤ c) (h1 : c ≤ 255) : inY kInn c = innB c := by
  have := byte_all (p := fun c => inY kInn c == innB c) (by decide +kernel) c h0 h1
  simpa using this
theorem inY_blk (c : Int) (h0 : 0 ≤ c) (h1 : c ≤ 255) : inY kBlk c = blkB c := by
  have := byte_all (p := fun c => inY kBlk c == blkB c) (by decide +kernel) c h0 h1
  simpa using this
theorem inY_sig (c : Int) (h0 : 0 ≤ c) (h1 : c ≤ 255) : inY kSig c = sigB c := by
  have := byte_all (p := fun c => inY kSig c == sigB c) (by decide +kernel) c h0 h1
  simpa using this
theorem sig_of (j : Nat) (h : j < 14) : sigB (sb kSig j) = true := by
  have : ((List.range 14).all fun j => sigB (sb kSig (j : Nat))) = true := by decide +kernel
  rw [List.all_eq_true] at this
  exact this j (List.mem_range.2 h)
theorem sig_ex (z : Int) (h : sigB z = true) : ∃ j : Nat, j < 14 ∧ sb kSig j = z := by
  unfold sigB at h
  rw [decide_eq_true_eq] at h
  rcases h with rfl | rfl | rfl | rfl | rfl | rfl | rfl | rfl | rfl | rfl | rfl | rfl | rfl | rfl
  all_goals first | exact ⟨0, by decide, by decide +kernel⟩ | exact ⟨1, by decide, by decide +kernel⟩ | exact ⟨2, by decide, by decide +kernel⟩ | exact ⟨3, by decide, by decide +kernel⟩ | exact ⟨4, by decide, by decide +kernel⟩ | exact ⟨5, by decide, by decide +kernel⟩ | exact ⟨6, by decide, by decide +kernel⟩ | exact ⟨7, by decide, by decide +kernel⟩ | exact ⟨8, by decide, by decide +kernel⟩ | exact ⟨9, by decide, by decide +kernel⟩ | exact ⟨10, by decide, by decide +kernel⟩ | exact ⟨11, by decide, by decide +kernel⟩ | exact ⟨12, by decide, by decide +kernel⟩ | exact ⟨13, by decide, by decide +kernel⟩
/-- Where bytes that are so end, from a place on. -/
def stopF (p : Int → Bool) (s : ByteArray) : Nat → Nat → Nat
  | 0, a => a
  | f + 1, a => if a < s.size ∧ p (sb s a) = true then stopF p s f (a + 1) else a
def stop (p : Int → Bool) (s : ByteArray) (a : Nat) : Nat := stopF p s (s.size - a) a
structure IsStop (p : Int → Bool) (s : ByteArray) (a e : Nat) : Prop where
  le : a ≤ e
  top : e ≤ s.size
  all : ∀ i : Nat, a ≤ i → i < e → p (sb s i) = true
  last : e < s.size → p (sb s e) = false
theorem stopF_is (p : Int → Bool) (s : ByteArray) : ∀ (f a : Nat), a ≤ s.size → s.size - a ≤ f → IsStop p s a (stopF p s f a)
  | 0, a, h, hf => ⟨Nat.le_refl _, h, fun i h1 h2 => absurd h2 (by unfold stopF; omega), fun h1 => absurd h1 (by unfold stopF; omega)⟩
  | f + 1, a, h, hf => by
    unfold stopF
    by_cases hc : a < s.size ∧ p (sb s a) = true
    · rw [if_pos hc]
      obtain ⟨h1, h2, h3, h4⟩ := stopF_is p s f (a + 1) (by omega) (by omega)
      refine ⟨by omega, h2, fun i hi hj => ?_, h4⟩
      rcases Nat.lt_or_ge a i with h5 | h5
      · exact h3 i h5 hj
      · obtain rfl : i = a := by omega
        exact hc.2
    · rw [if_neg hc]
      refine ⟨Nat.le_refl _, h, fun i hi hj => absurd hj (by omega), fun h1 => ?_⟩
      cases hp : p (sb s a) with
      | false => rfl
      | true => exact absurd ⟨h1, hp⟩ hc
theorem stop_is (p : Int → Bool) (s : ByteArray) (a : Nat) (h : a ≤ s.size) : IsStop p s a (stop p s a) := stopF_is p s _ a h (Nat.le_refl _)
theorem IsStop.uniq {p : Int → Bool} {s : ByteArray} {a e f : Nat} (h : IsStop p s a e) (k : IsStop p s a f) : e = f := by
  rcases Nat.lt_trichotomy e f with hl | rfl | hl
  · have := k.all e h.le hl
    rw [h.last (by have := k.top; omega)] at this
    cases this
  · rfl
  · have := h.all f k.le hl
    rw [k.last (by have := h.top; omega)] at this
    cases this
theorem IsStop.eq {p : Int → Bool} {s : ByteArray} {a e : Nat} (h : IsStop p s a e) : stop p s a = e := (stop_is p s a (Nat.le_trans h.le h.top)).uniq h
theorem stop_congr {p q : Int → Bool} (h : ∀ c, 0 ≤ c → c ≤ 255 → p c = q c) (s : ByteArray) (a : Nat) (ha : a ≤ s.size) : stop p s a = stop q s a := by
  obtain ⟨h1, h2, h3, h4⟩ := stop_is q s a ha
  refine IsStop.eq ⟨h1, h2, fun i hi hj => ?_, fun hl => ?_⟩
  · rw [h _ (sb_range s i).1 (sb_range s i).2]; exact h3 i hi hj
  · rw [h _ (sb_range _ _).1 (sb_range _ _).2]; exact h4 hl
theorem IR.litV {w : World} {ok : Nat → Prop} {u v : Value} (h : IR w ok (.lit u) v) : v = u := by cases h; rfl
theorem Calls.toPure {P : Program} {f : FuncId} {pvs : List PV} {r : PV} {u : Value} (he : entersB P f = true) (hr : ∀ (ok : Nat → Prop) (w : World), PR w ok r u)
    (h : ∀ (ok : Nat → Prop) (w : World) (vals : Array Value), vals.size = pvs.length → (∀ (k : Nat) (x : PV), pvs[k]? = some x → PR w ok x (vals.getD k undef)) → Calls P f vals w fun e w' => e = .returned u ∧ w' = w) : PureCalls P f pvs r :=
  ⟨he, fun ok w vals hs hv => (h ok w vals hs hv).mono (by
    rintro e w' ⟨rfl, rfl⟩
    exact ⟨u, rfl, hr _ _, .refl _ _⟩)⟩
set_option maxHeartbeats 1000000 in
set_option maxRecDepth 100000 in
theorem indexY_w (s : ByteArray) (c : Int) (w : World) :
    Calls Tryd.prog 37 #[.string s, .int .u8 c] w fun e w' => e = .returned (.int .i64 (Lib.indexByte s.data.toList c.toNat.toUInt8)) ∧ w' = w := by
  go_enter Tryd.func37, Tryd.ntmps37
  go_wp2
  rw [run_callFunc_extern Tryd.func46 (by kernel_rfl) (by kernel_rfl) (by kernel_rfl) (e := Extern.BytealgIndexByte.indexByte) (by kernel_rfl), Lib.run_indexByteString]
  simp only [Result.andThen]
  rw [Oper.upon_value]
  go_wp2
  go_ret
  exact ⟨rfl, rfl⟩
theorem indexY_c (s : ByteArray) (c : Int) : PureCalls Tryd.prog 37 [SP s, UP c] (IP (idxY s c)) := by
  refine Calls.toPure (u := .int .i64 (idxY s c)) rfl (fun ok w => .c _ _ (.lit _ rfl)) fun ok w vals hs hv => ?_
  have h0 := hv 0 _ rfl
  have h1 := hv 1 _ rfl
  cases h0 with | c _ _ h0 =>
  cases h1 with | c _ _ h1 =>
  have e0 := h0.litV
  have e1 := h1.litV
  have : vals = #[.string s, .int .u8 c] := by
    apply Array.ext
    · exact hs
    · intro i h2 h3
      match i, h3 with
      | 0, _ => simpa [Array.getD, h2] using e0
      | 1, _ => simpa [Array.getD, h2] using e1
  rw [this]
  exact indexY_w s c w
variable {A : Ar} (hA : A = real)
include hA
theorem indexB_c (s : ByteArray) (c : Int) : PureCalls Tryd.prog 27 [SP s, UP c] (IP (hid A (idxY s c))) := by
  have hi := indexY_c s c
  generalize hz : idxY s c = z at hi ⊢
  refine PureCalls.of Tryd.func27 rfl (by kernel_rfl) rfl ?_
  try first | refine AOLg.of [] ?_ | refine QSg.of [] ?_
  repeat' (first | (refine AWp.pass ?_; first | refine AWp.seq ?_ | refine AWp.block ?_ | refine AWp.skip ?_ | refine AWp.regG [] Zc ?_ | refine AWp.cond_t rfl ?_ | refine AWp.cond_f rfl ?_ | (refine AWp.cond rfl ?_ ?_ <;> intro hc <;> (try rw [hc]) <;> ((try simp only [zn] at hc) <;> (try simp (disch := omega) only [zz hA, zb, zy, reduceCtorEq, Bool.false_eq_true, Int.reduceLT, Int.reduceLE, Int.reduceNeg] at hc) <;> (try simp only [zw] at hc)) <;> (try (exfalso; omega))) | refine AWp.exit ?_ | refine AWp.ret ⟨.inr rfl, _, RetOk.ev tabOk Zc, ?_⟩) | (refine AOLg.pass ?_; refine AOLg.nx hA tabOk Zc ?_; first | refine NX.done ?_ | refine NX.gt ?_ | refine NX.gf ?_ | (refine NX.gs ?_ ?_ <;> intro hc <;> rw [hc] <;> ((try simp only [zn] at hc) <;> (try simp (disch := omega) only [zz hA, zb, zy, reduceCtorEq, Bool.false_eq_true, Int.reduceLT, Int.reduceLE, Int.reduceNeg] at hc) <;> (try simp only [zw] at hc)) <;> (try (exfalso; omega))) | (refine NX.kC ?_; first | (with_reducible refine NX.call (hi) ?_) | ((first | refine NX.call (hi) ?_)) | fail) | (refine NX.kO ?_; (first | refine NX.callO (hi) (by simp [allEq]) rfl ?_)) | refine NX.raw ?_) | refine Thn.exit ?_ | refine Blk.here ?_ | refine Blk.other (by decide) ?_ | refine ⟨.inl rfl, _, RetOk.ev tabOk Zc, ?_⟩ | fail)
  refine rPV_then (by conv => lhs; cbv) ?_
  rw [hid_eq hA]
theorem has_c (k : ByteArray) (c : Int) : PureCalls Tryd.prog 21 [SP k, UP c] (BP (hid A (inY k c))) := by
  refine PureCalls.of Tryd.func21 rfl (by kernel_rfl) rfl ?_
  try first | refine AOLg.of [] ?_ | refine QSg.of [] ?_
  repeat' (first | (refine AWp.pass ?_; first | refine AWp.seq ?_ | refine AWp.block ?_ | refine AWp.skip ?_ | refine AWp.regG [] Zc ?_ | refine AWp.cond_t rfl ?_ | refine AWp.cond_f rfl ?_ | (refine AWp.cond rfl ?_ ?_ <;> intro hc <;> (try rw [hc]) <;> ((try simp only [zn] at hc) <;> (try simp (disch := omega) only [zz hA, zb, zy, reduceCtorEq, Bool.false_eq_true, Int.reduceLT, Int.reduceLE, Int.reduceNeg] at hc) <;> (try simp only [zw] at hc)) <;> (try (exfalso; omega))) | refine AWp.exit ?_ | refine AWp.ret ⟨.inr rfl, _, RetOk.ev tabOk Zc, ?_⟩) | (refine AOLg.pass ?_; refine AOLg.nx hA tabOk Zc ?_; first | refine NX.done ?_ | refine NX.gt ?_ | refine NX.gf ?_ | (refine NX.gs ?_ ?_ <;> intro hc <;> rw [hc] <;> ((try simp only [zn] at hc) <;> (try simp (disch := omega) only [zz hA, zb, zy, reduceCtorEq, Bool.false_eq_true, Int.reduceLT, Int.reduceLE, Int.reduceNeg] at hc) <;> (try simp only [zw] at hc)) <;> (try (exfalso; omega))) | (refine NX.kC ?_; first | (with_reducible refine NX.call (indexB_c hA k c) ?_) | ((first | refine NX.call (indexB_c hA k c) ?_)) | fail) | (refine NX.kO ?_; (first | refine NX.callO (indexB_c hA k c) (by simp [allEq]) rfl ?_)) | refine NX.raw ?_) | refine Thn.exit ?_ | refine Blk.here ?_ | refine Blk.other (by decide) ?_ | refine ⟨.inl rfl, _, RetOk.ev tabOk Zc, ?_⟩ | fail)
  refine rPV_then (by conv => lhs; cbv) ?_
  simp [hA, real, hid, inY]
theorem far_c (k s : ByteArray) (hl : s.size ≤ 1000000) : ACalls Tryd.prog 20 [.ic (.lit (.string s)), .fn (.func 21) [.ic (.lit (.string k))] []] [] (fun x st' => x = .ic (.lit (.int .i64 (hid A (cN (stop (inY k) s 0))))) ∧ st' = []) := by
  refine ACalls.of Tryd.func20 rfl (by kernel_rfl) rfl ?_
  try first | refine AOLg.of [] ?_ | refine QSg.of [] ?_
  repeat' (first | (refine AWp.pass ?_; first | refine AWp.seq ?_ | refine AWp.block ?_ | refine AWp.skip ?_ | refine AWp.regG [] Zc ?_ | refine AWp.cond_t rfl ?_ | refine AWp.cond_f rfl ?_ | (refine AWp.cond rfl ?_ ?_ <;> intro hc <;> (try rw [hc]) <;> ((try simp only [zn] at hc) <;> (try simp (disch := omega) only [zz hA, zb, zy, reduceCtorEq, Bool.false_eq_true, Int.reduceLT, Int.reduceLE, Int.reduceNeg] at hc) <;> (try simp only [zw] at hc)) <;> (try (exfalso; omega))) | refine AWp.exit ?_ | refine AWp.ret ⟨.inr rfl, _, RetOk.ev tabOk Zc, ?_⟩) | (refine AOLg.pass ?_; refine AOLg.nx hA tabOk Zc ?_; first | refine NX.done ?_ | refine NX.gt ?_ | refine NX.gf ?_ | (refine NX.gs ?_ ?_ <;> intro hc <;> rw [hc] <;> ((try simp only [zn] at hc) <;> (try simp (disch := omega) only [zz hA, zb, zy, reduceCtorEq, Bool.false_eq_true, Int.reduceLT, Int.reduceLE, Int.reduceNeg] at hc) <;> (try simp only [zw] at hc)) <;> (try (exfalso; omega))) | refine NX.k 7 (NX.one Z7 ?_) | refine NX.k 10 (NX.one Z10 ?_) | refine NX.k 13 (NX.one Z13 ?_) | refine NX.raw ?_) | refine Thn.exit ?_ | refine Blk.here ?_ | refine Blk.other (by decide) ?_ | refine ⟨.inl rfl, _, RetOk.ev tabOk Zc, ?_⟩ | fail)
  refine AWp.loopU (fun n : Nat => [(5, .ic (.lit (.int .i64 (hid A (cN n)))))]) (fun _ => []) (fun n => s.size - n) (fun n => n ≤ s.size ∧ ∀ i : Nat, i < n → inY k (sb s i) = true) 0 (by conv => lhs; cbv) ⟨Nat.zero_le _, by simp⟩ (by (repeat' (first | exact subE.nil | refine subE.cons rfl ?_ | refine subE.int rfl ?_ ?_ | refine subE.bool rfl ?_ ?_ | refine subE.str rfl ?_ ?_ | refine subE.sl rfl ?_ ?_)) <;> simp [hA, real, hid, cN]) rfl ?_
  rintro n ⟨hn, hall⟩
  by_cases hlt : n < s.size
  · try first | refine AOLg.of [] ?_ | refine QSg.of [] ?_
    repeat' (first | (refine AWp.pass ?_; first | refine AWp.seq ?_ | refine AWp.block ?_ | refine AWp.skip ?_ | refine AWp.regG [] Zc ?_ | refine AWp.cond_t rfl ?_ | refine AWp.cond_f rfl ?_ | (refine AWp.cond rfl ?_ ?_ <;> intro hc <;> (try rw [hc]) <;> ((try simp only [zn] at hc) <;> (try simp (disch := omega) only [zz hA, zb, zy, reduceCtorEq, Bool.false_eq_true, Int.reduceLT, Int.reduceLE, Int.reduceNeg] at hc) <;> (try simp only [zw] at hc)) <;> (try (exfalso; omega))) | refine AWp.exit ?_ | refine AWp.ret ⟨.inr rfl, _, RetOk.ev tabOk Zc, ?_⟩) | (refine AOLg.pass ?_; refine AOLg.nx hA tabOk Zc ?_; first | refine NX.done ?_ | refine NX.gt ?_ | refine NX.gf ?_ | (refine NX.gs ?_ ?_ <;> intro hc <;> rw [hc] <;> ((try simp only [zn] at hc) <;> (try simp (disch := omega) only [zz hA, zb, zy, reduceCtorEq, Bool.false_eq_true, Int.reduceLT, Int.reduceLE, Int.reduceNeg] at hc) <;> (try simp only [zw] at hc)) <;> (try (exfalso; omega))) | (refine NX.kC ?_; first | (with_reducible refine NX.call (has_c hA k _) ?_) | ((first | refine NX.call (has_c hA k _) ?_)) | fail) | (refine NX.kO ?_; (first | refine NX.callO (has_c hA k _) (by simp [allEq]) rfl ?_)) | refine NX.k 7 (NX.one Z7 ?_) | refine NX.k 10 (NX.one Z10 ?_) | refine NX.k 13 (NX.one Z13 ?_) | refine NX.raw ?_) | refine Thn.exit ?_ | refine Blk.here ?_ | refine Blk.other (by decide) ?_ | refine ⟨.inl rfl, _, RetOk.ev tabOk Zc, ?_⟩ | fail)
    · refine ⟨n + 1, ?_, ?_, rfl, rfl, ?_, Zk⟩ <;> (try omega)
      repeat' (first | exact subE.nil | refine subE.cons rfl ?_ | refine subE.int rfl ?_ ?_ | refine subE.bool rfl ?_ ?_ | refine subE.str rfl ?_ ?_ | refine subE.sl rfl ?_ ?_)
      · refine ⟨by omega, fun i hi => ?_⟩
        rcases Nat.lt_or_ge i n with h | h
        · exact hall i h
        · obtain rfl : i = n := by omega
          exact hc
      · exact Zd
    · refine ⟨?_, rfl⟩
      rw [show stop (inY k) s 0 = n from IsStop.eq ⟨Nat.zero_le _, hn, fun i _ h2 => hall i h2, fun _ => hc⟩]
  · try first | refine AOLg.of [] ?_ | refine QSg.of [] ?_
    repeat' (first | (refine AWp.pass ?_; first | refine AWp.seq ?_ | refine AWp.block ?_ | refine AWp.skip ?_ | refine AWp.regG [] Zc ?_ | refine AWp.cond_t rfl ?_ | refine AWp.cond_f rfl ?_ | (refine AWp.cond rfl ?_ ?_ <;> intro hc <;> (try rw [hc]) <;> ((try simp only [zn] at hc) <;> (try simp (disch := omega) only [zz hA, zb, zy, reduceCtorEq, Bool.false_eq_true, Int.reduceLT, Int.reduceLE, Int.reduceNeg] at hc) <;> (try simp only [zw] at hc)) <;> (try (exfalso; omega))) | refine AWp.exit ?_ | refine AWp.ret ⟨.inr rfl, _, RetOk.ev tabOk Zc, ?_⟩) | (refine AOLg.pass ?_; refine AOLg.nx hA tabOk Zc ?_; first | refine NX.done ?_ | refine NX.gt ?_ | refine NX.gf ?_ | (refine NX.gs ?_ ?_ <;> intro hc <;> rw [hc] <;> ((try simp only [zn] at hc) <;> (try simp (disch := omega) only [zz hA, zb, zy, reduceCtorEq, Bool.false_eq_true, Int.reduceLT, Int.reduceLE, Int.reduceNeg] at hc) <;> (try simp only [zw] at hc)) <;> (try (exfalso; omega))) | (refine NX.kC ?_; first | (with_reducible refine NX.call (has_c hA k _) ?_) | ((first | refine NX.call (has_c hA k _) ?_)) | fail) | (refine NX.kO ?_; (first | refine NX.callO (has_c hA k _) (by simp [allEq]) rfl ?_)) | refine NX.k 7 (NX.one Z7 ?_) | refine NX.k 10 (NX.one Z10 ?_) | refine NX.k 13 (NX.one Z13 ?_) | refine NX.raw ?_) | refine Thn.exit ?_ | refine Blk.here ?_ | refine Blk.other (by decide) ?_ | refine ⟨.inl rfl, _, RetOk.ev tabOk Zc, ?_⟩ | fail)
    refine ⟨?_, rfl⟩
    rw [show stop (inY k) s 0 = n from IsStop.eq ⟨Nat.zero_le _, hn, fun i _ h2 => hall i h2, fun h => absurd h hlt⟩]
theorem rFigure_c (z : Int) : PureCalls Tryd.prog 30 [UP z] (BP (hid A (figB z))) := by
  refine PureCalls.of Tryd.func30 rfl (by kernel_rfl) rfl ?_
  try first | refine AOLg.of [] ?_ | refine QSg.of [] ?_
  repeat' (first | (refine AWp.pass ?_; first | refine AWp.seq ?_ | refine AWp.block ?_ | refine AWp.skip ?_ | refine AWp.regG [] Zc ?_ | refine AWp.cond_t rfl ?_ | refine AWp.cond_f rfl ?_ | (refine AWp.cond rfl ?_ ?_ <;> intro hc <;> (try rw [hc]) <;> ((try simp only [zn] at hc) <;> (try simp (disch := omega) only [zz hA, zb, zy, reduceCtorEq, Bool.false_eq_true, Int.reduceLT, Int.reduceLE, Int.reduceNeg] at hc) <;> (try simp only [zw] at hc)) <;> (try (exfalso; omega))) | refine AWp.exit ?_ | refine AWp.ret ⟨.inr rfl, _, RetOk.ev tabOk Zc, ?_⟩) | (refine AOLg.pass ?_; refine AOLg.nx hA tabOk Zc ?_; first | refine NX.done ?_ | refine NX.gt ?_ | refine NX.gf ?_ | (refine NX.gs ?_ ?_ <;> intro hc <;> rw [hc] <;> ((try simp only [zn] at hc) <;> (try simp (disch := omega) only [zz hA, zb, zy, reduceCtorEq, Bool.false_eq_true, Int.reduceLT, Int.reduceLE, Int.reduceNeg] at hc) <;> (try simp only [zw] at hc)) <;> (try (exfalso; omega))) | refine NX.raw ?_) | refine Thn.exit ?_ | refine Blk.here ?_ | refine Blk.other (by decide) ?_ | refine ⟨.inl rfl, _, RetOk.ev tabOk Zc, ?_⟩ | fail)
  all_goals (refine rPV_then (by conv => lhs; cbv) ?_; refine congrArg (fun b => PV.c (IC.lit (Value.bool b))) ?_; rw [Bool.eq_iff_iff]; (try simp only [zn]); (try simp (disch := omega) only [zz hA, zb, zy, reduceCtorEq, Bool.false_eq_true, Int.reduceLT, Int.reduceLE, Int.reduceNeg, figB, Bool.and_eq_true, Bool.or_eq_true, Bool.not_eq_true, decide_eq_true_eq, decide_eq_false_iff_not, true_iff, iff_true, false_iff, iff_false, and_true, true_and, or_true, true_or, and_false, false_and, or_false, false_or, not_true_eq_false, not_false_eq_true]); first | done | omega)
theorem rLetter_c (z : Int) : PureCalls Tryd.prog 29 [UP z] (BP (hid A (letB z))) := by
  refine PureCalls.of Tryd.func29 rfl (by kernel_rfl) rfl ?_
  try first | refine AOLg.of [] ?_ | refine QSg.of [] ?_
  repeat' (first | (refine AWp.pass ?_; first | refine AWp.seq ?_ | refine AWp.block ?_ | refine AWp.skip ?_ | refine AWp.regG [] Zc ?_ | refine AWp.cond_t rfl ?_ | refine AWp.cond_f rfl ?_ | (refine AWp.cond rfl ?_ ?_ <;> intro hc <;> (try rw [hc]) <;> ((try simp only [zn] at hc) <;> (try simp (disch := omega) only [zz hA, zb, zy, reduceCtorEq, Bool.false_eq_true, Int.reduceLT, Int.reduceLE, Int.reduceNeg] at hc) <;> (try simp only [zw] at hc)) <;> (try (exfalso; omega))) | refine AWp.exit ?_ | refine AWp.ret ⟨.inr rfl, _, RetOk.ev tabOk Zc, ?_⟩) | (refine AOLg.pass ?_; refine AOLg.nx hA tabOk Zc ?_; first | refine NX.done ?_ | refine NX.gt ?_ | refine NX.gf ?_ | (refine NX.gs ?_ ?_ <;> intro hc <;> rw [hc] <;> ((try simp only [zn] at hc) <;> (try simp (disch := omega) only [zz hA, zb, zy, reduceCtorEq, Bool.false_eq_true, Int.reduceLT, Int.reduceLE, Int.reduceNeg] at hc) <;> (try simp only [zw] at hc)) <;> (try (exfalso; omega))) | refine NX.raw ?_) | refine Thn.exit ?_ | refine Blk.here ?_ | refine Blk.other (by decide) ?_ | refine ⟨.inl rfl, _, RetOk.ev tabOk Zc, ?_⟩ | fail)
  all_goals (refine rPV_then (by conv => lhs; cbv) ?_; refine congrArg (fun b => PV.c (IC.lit (Value.bool b))) ?_; rw [Bool.eq_iff_iff]; (try simp only [zn]); (try simp (disch := omega) only [zz hA, zb, zy, reduceCtorEq, Bool.false_eq_true, Int.reduceLT, Int.reduceLE, Int.reduceNeg, letB, Bool.and_eq_true, Bool.or_eq_true, Bool.not_eq_true, decide_eq_true_eq, decide_eq_false_iff_not, true_iff, iff_true, false_iff, iff_false, and_true, true_and, or_true, true_or, and_false, false_and, or_false, false_or, not_true_eq_false, not_false_eq_true]); first | done | omega)
theorem rSign_c (z : Int) : PureCalls Tryd.prog 31 [UP z] (BP (hid A (sigB z))) := by
  refine PureCalls.of Tryd.func31 rfl (by kernel_rfl) rfl ?_
  try first | refine AOLg.of [] ?_ | refine QSg.of [] ?_
  repeat' (first | (refine AWp.pass ?_; first | refine AWp.seq ?_ | refine AWp.block ?_ | refine AWp.skip ?_ | refine AWp.regG [] Zc ?_ | refine AWp.cond_t rfl ?_ | refine AWp.cond_f rfl ?_ | (refine AWp.cond rfl ?_ ?_ <;> intro hc <;> (try rw [hc]) <;> ((try simp only [zn] at hc) <;> (try simp (disch := omega) only [zz hA, zb, zy, reduceCtorEq, Bool.false_eq_true, Int.reduceLT, Int.reduceLE, Int.reduceNeg] at hc) <;> (try simp only [zw] at hc)) <;> (try (exfalso; omega))) | refine AWp.exit ?_ | refine AWp.ret ⟨.inr rfl, _, RetOk.ev tabOk Zc, ?_⟩) | (refine AOLg.pass ?_; refine AOLg.nx hA tabOk Zc ?_; first | refine NX.done ?_ | refine NX.gt ?_ | refine NX.gf ?_ | (refine NX.gs ?_ ?_ <;> intro hc <;> rw [hc] <;> ((try simp only [zn] at hc) <;> (try simp (disch := omega) only [zz hA, zb, zy, reduceCtorEq, Bool.false_eq_true, Int.reduceLT, Int.reduceLE, Int.reduceNeg] at hc) <;> (try simp only [zw] at hc)) <;> (try (exfalso; omega))) | refine NX.k 7 (NX.one Z7 ?_) | refine NX.k 8 (NX.one Z8 ?_) | refine NX.k 13 (NX.one Z13 ?_) | refine NX.raw ?_) | refine Thn.exit ?_ | refine Blk.here ?_ | refine Blk.other (by decide) ?_ | refine ⟨.inl rfl, _, RetOk.ev tabOk Zc, ?_⟩ | fail)
  refine AWp.loopU (fun n : Nat => [(3, .ic (.lit (.int .i64 (hid A (cN n)))))]) (fun _ => []) (fun n => 14 - n) (fun n => n ≤ 14 ∧ ∀ i : Nat, i < n → sb kSig i ≠ z) 0 (by conv => lhs; cbv) ⟨Nat.zero_le _, by simp⟩ (by (repeat' (first | exact subE.nil | refine subE.cons rfl ?_ | refine subE.int rfl ?_ ?_ | refine subE.bool rfl ?_ ?_ | refine subE.str rfl ?_ ?_ | refine subE.sl rfl ?_ ?_)) <;> simp [hA, real, hid, cN]) rfl ?_
  rintro n ⟨hn, hall⟩
  have hsz : ((kSig.size : Nat) : Int) = 14 := rfl
  by_cases hlt : n < 14
  · try first | refine AOLg.of [] ?_ | refine QSg.of [] ?_
    repeat' (first | (refine AWp.pass ?_; first | refine AWp.seq ?_ | refine AWp.block ?_ | refine AWp.skip ?_ | refine AWp.regG [] Zc ?_ | refine AWp.cond_t rfl ?_ | refine AWp.cond_f rfl ?_ | (refine AWp.cond rfl ?_ ?_ <;> intro hc <;> (try rw [hc]) <;> ((try simp only [zn] at hc) <;> (try simp (disch := omega) only [zz hA, zb, zy, reduceCtorEq, Bool.false_eq_true, Int.reduceLT, Int.reduceLE, Int.reduceNeg] at hc) <;> (try simp only [zw] at hc)) <;> (try (exfalso; omega))) | refine AWp.exit ?_ | refine AWp.ret ⟨.inr rfl, _, RetOk.ev tabOk Zc, ?_⟩) | (refine AOLg.pass ?_; refine AOLg.nx hA tabOk Zc ?_; first | refine NX.done ?_ | refine NX.gt ?_ | refine NX.gf ?_ | (refine NX.gs ?_ ?_ <;> intro hc <;> rw [hc] <;> ((try simp only [zn] at hc) <;> (try simp (disch := omega) only [zz hA, zb, zy, reduceCtorEq, Bool.false_eq_true, Int.reduceLT, Int.reduceLE, Int.reduceNeg] at hc) <;> (try simp only [zw] at hc)) <;> (try (exfalso; omega))) | refine NX.k 7 (NX.one Z7 ?_) | refine NX.k 8 (NX.one Z8 ?_) | refine NX.k 13 (NX.one Z13 ?_) | (refine NX.one (One.byteM (b := kSig) hA tabOk rfl rfl rfl rfl rfl Zd Zd) ?_) | refine NX.raw ?_) | refine Thn.exit ?_ | refine Blk.here ?_ | refine Blk.other (by decide) ?_ | refine ⟨.inl rfl, _, RetOk.ev tabOk Zc, ?_⟩ | fail)
    · refine rPV_then (by conv => lhs; cbv) ?_
      rw [← hc, sig_of n hlt, hid_eq hA]
    · refine ⟨n + 1, ?_, ?_, rfl, rfl, ?_, Zk⟩ <;> (try omega)
      repeat' (first | exact subE.nil | refine subE.cons rfl ?_ | refine subE.int rfl ?_ ?_ | refine subE.bool rfl ?_ ?_ | refine subE.str rfl ?_ ?_ | refine subE.sl rfl ?_ ?_)
      · refine ⟨by omega, fun i hi => ?_⟩
        rcases Nat.lt_or_ge i n with h | h
        · exact hall i h
        · obtain rfl : i = n := by omega
          exact hc
      · exact Zd
  · try first | refine AOLg.of [] ?_ | refine QSg.of [] ?_
    repeat' (first | (refine AWp.pass ?_; first | refine AWp.seq ?_ | refine AWp.block ?_ | refine AWp.skip ?_ | refine AWp.regG [] Zc ?_ | refine AWp.cond_t rfl ?_ | refine AWp.cond_f rfl ?_ | (refine AWp.cond rfl ?_ ?_ <;> intro hc <;> (try rw [hc]) <;> ((try simp only [zn] at hc) <;> (try simp (disch := omega) only [zz hA, zb, zy, reduceCtorEq, Bool.false_eq_true, Int.reduceLT, Int.reduceLE, Int.reduceNeg] at hc) <;> (try simp only [zw] at hc)) <;> (try (exfalso; omega))) | refine AWp.exit ?_ | refine AWp.ret ⟨.inr rfl, _, RetOk.ev tabOk Zc, ?_⟩) | (refine AOLg.pass ?_; refine AOLg.nx hA tabOk Zc ?_; first | refine NX.done ?_ | refine NX.gt ?_ | refine NX.gf ?_ | (refine NX.gs ?_ ?_ <;> intro hc <;> rw [hc] <;> ((try simp only [zn] at hc) <;> (try simp (disch := omega) only [zz hA, zb, zy, reduceCtorEq, Bool.false_eq_true, Int.reduceLT, Int.reduceLE, Int.reduceNeg] at hc) <;> (try simp only [zw] at hc)) <;> (try (exfalso; omega))) | refine NX.k 7 (NX.one Z7 ?_) | refine NX.k 8 (NX.one Z8 ?_) | refine NX.k 13 (NX.one Z13 ?_) | (refine NX.one (One.byteM (b := kSig) hA tabOk rfl rfl rfl rfl rfl Zd Zd) ?_) | refine NX.raw ?_) | refine Thn.exit ?_ | refine Blk.here ?_ | refine Blk.other (by decide) ?_ | refine ⟨.inl rfl, _, RetOk.ev tabOk Zc, ?_⟩ | fail)
    refine rPV_then (by conv => lhs; cbv) ?_
    have : sigB z = false := by
      cases h : sigB z with
      | false => rfl
      | true =>
        obtain ⟨j, hj, e⟩ := sig_ex z h
        exact absurd e (hall j (by omega))
    rw [this, hid_eq hA]
end Go.Proofs.YtklecijcpkolfaaDoor.Aw

/- The shelf contracts of strings.Join and strconv.Atoi laid at this dump, printed by the kit (lay-plain.mjs, out of a text with two layings). -/
namespace Go.Proofs
open Go.Shelf
def Tryd.laysJoin_ren : Go.Shelf.Ren := ⟨fun | 156 => 24 | 165 => 32 | 166 => 33 | 169 => 34 | 240 => 39 | 241 => 40 | 276 => 47 | 277 => 48 | n => n, fun | 31 => 50 | 9 => 9 | 3 => 3 | 4 => 4 | 0 => 0 | 20 => 20 | 72 => 59 | 76 => 54 | 70 => 57 | 37 => 36 | 75 => 53 | 127 => 63 | 164 => 70 | 5 => 5 | 80 => 61 | n => n, fun | n => n⟩
theorem Tryd.laysJoin : Go.Proofs.Lays.n156 Tryd.prog Tryd.laysJoin_ren := {
  mixed := by kernel_rfl
  f156 := Tryd.func24.trans (congrArg some (by kernel_rfl))
  f165 := Tryd.func32.trans (congrArg some (by kernel_rfl))
  f166 := Tryd.func33.trans (congrArg some (by kernel_rfl))
  f169 := Tryd.func34.trans (congrArg some (by kernel_rfl))
  f240 := Tryd.func39.trans (congrArg some (by kernel_rfl))
  f241 := Tryd.func40.trans (congrArg some (by kernel_rfl))
  f276 := Tryd.func47.trans (congrArg some (by kernel_rfl))
  f277 := Tryd.func48.trans (congrArg some (by kernel_rfl))
  t0 := Tryd.underlying0
  a0 := Tryd.isAgg0
  z0 := Tryd.sizeOf0
  v0 := Tryd.zeroValue0
  t3 := Tryd.underlying3
  a3 := Tryd.isAgg3
  z3 := Tryd.sizeOf3
  v3 := Tryd.zeroValue3
  t4 := Tryd.underlying4
  a4 := Tryd.isAgg4
  z4 := Tryd.sizeOf4
  v4 := Tryd.zeroValue4
  t9 := Tryd.underlying9
  a9 := Tryd.isAgg9
  z9 := Tryd.sizeOf9
  v9 := Tryd.zeroValue9
  t20 := Tryd.underlying20
  a20 := Tryd.isAgg20
  z20 := Tryd.sizeOf20
  v20 := Tryd.zeroValue20
  t31 := Tryd.underlying50
  a31 := Tryd.isAgg50
  z31 := Tryd.sizeOf50
  v31 := Tryd.zeroValue50
  t37 := Tryd.underlying36
  a37 := Tryd.isAgg36
  z37 := Tryd.sizeOf36
  v37 := Tryd.zeroValue36
  t70 := Tryd.underlying57
  a70 := Tryd.isAgg57
  z70 := Tryd.sizeOf57
  v70 := Tryd.zeroValue57
  t72 := Tryd.underlying59
  a72 := Tryd.isAgg59
  z72 := Tryd.sizeOf59
  v72 := Tryd.zeroValue59
  t75 := Tryd.underlying53
  a75 := Tryd.isAgg53
  z75 := Tryd.sizeOf53
  v75 := Tryd.zeroValue53
  t76 := Tryd.underlying54
  a76 := Tryd.isAgg54
  z76 := Tryd.sizeOf54
  v76 := Tryd.zeroValue54
  t127 := Tryd.underlying63
  a127 := Tryd.isAgg63
  z127 := Tryd.sizeOf63
  v127 := Tryd.zeroValue63
  t164 := Tryd.underlying70
  a164 := Tryd.isAgg70
  z164 := Tryd.sizeOf70
  v164 := Tryd.zeroValue70 }
def Tryd.laysAtoi_ren : Go.Shelf.Ren := ⟨fun | 172 => 25 | 244 => 35 | 245 => 36 | 247 => 41 | 279 => 42 | 280 => 43 | 281 => 44 | 282 => 45 | 287 => 49 | 316 => 50 | 171 => 52 | 205 => 51 | 321 => 53 | 322 => 54 | 243 => 55 | 246 => 56 | 283 => 57 | 284 => 58 | 285 => 59 | 286 => 60 | 129 => 62 | 317 => 61 | 318 => 63 | 319 => 64 | 320 => 65 | 337 => 66 | 338 => 67 | n => n, fun | 9 => 9 | 3 => 3 | 75 => 53 | 76 => 54 | 4 => 4 | 5 => 5 | 167 => 64 | 37 => 36 | 0 => 0 | 85 => 65 | 2 => 2 | 168 => 67 | 53 => 73 | 175 => 74 | 46 => 76 | 210 => 79 | 127 => 63 | 145 => 85 | 143 => 83 | 21 => 21 | 171 => 87 | 173 => 90 | 212 => 94 | 51 => 35 | 20 => 20 | 213 => 95 | 232 => 99 | 233 => 100 | 80 => 61 | n => n, fun | 15 => 0 | 16 => 1 | 17 => 3 | 18 => 4 | 19 => 5 | n => n⟩
theorem Tryd.laysAtoi : Go.Proofs.Lays.n172 Tryd.prog Tryd.laysAtoi_ren := {
  mixed := by kernel_rfl
  f129 := Tryd.func62.trans (congrArg some (by kernel_rfl))
  f171 := Tryd.func52.trans (congrArg some (by kernel_rfl))
  f172 := Tryd.func25.trans (congrArg some (by kernel_rfl))
  f205 := Tryd.func51.trans (congrArg some (by kernel_rfl))
  f243 := Tryd.func55.trans (congrArg some (by kernel_rfl))
  f244 := Tryd.func35.trans (congrArg some (by kernel_rfl))
  f245 := Tryd.func36.trans (congrArg some (by kernel_rfl))
  f246 := Tryd.func56.trans (congrArg some (by kernel_rfl))
  f247 := Tryd.func41.trans (congrArg some (by kernel_rfl))
  f279 := Tryd.func42.trans (congrArg some (by kernel_rfl))
  f280 := Tryd.func43.trans (congrArg some (by kernel_rfl))
  f281 := Tryd.func44.trans (congrArg some (by kernel_rfl))
  f282 := Tryd.func45.trans (congrArg some (by kernel_rfl))
  f283 := Tryd.func57.trans (congrArg some (by kernel_rfl))
  f284 := Tryd.func58.trans (congrArg some (by kernel_rfl))
  f285 := Tryd.func59.trans (congrArg some (by kernel_rfl))
  f286 := Tryd.func60.trans (congrArg some (by kernel_rfl))
  f287 := Tryd.func49.trans (congrArg some (by kernel_rfl))
  f316 := Tryd.func50.trans (congrArg some (by kernel_rfl))
  f317 := Tryd.func61.trans (congrArg some (by kernel_rfl))
  f318 := Tryd.func63.trans (congrArg some (by kernel_rfl))
  f319 := Tryd.func64.trans (congrArg some (by kernel_rfl))
  f320 := Tryd.func65.trans (congrArg some (by kernel_rfl))
  f321 := Tryd.func53.trans (congrArg some (by kernel_rfl))
  f322 := Tryd.func54.trans (congrArg some (by kernel_rfl))
  f337 := Tryd.func66.trans (congrArg some (by kernel_rfl))
  f338 := Tryd.func67.trans (congrArg some (by kernel_rfl))
  t0 := Tryd.underlying0
  a0 := Tryd.isAgg0
  z0 := Tryd.sizeOf0
  v0 := Tryd.zeroValue0
  t2 := Tryd.underlying2
  a2 := Tryd.isAgg2
  z2 := Tryd.sizeOf2
  v2 := Tryd.zeroValue2
  t3 := Tryd.underlying3
  a3 := Tryd.isAgg3
  z3 := Tryd.sizeOf3
  v3 := Tryd.zeroValue3
  t4 := Tryd.underlying4
  a4 := Tryd.isAgg4
  z4 := Tryd.sizeOf4
  v4 := Tryd.zeroValue4
  t5 := Tryd.underlying5
  a5 := Tryd.isAgg5
  z5 := Tryd.sizeOf5
  v5 := Tryd.zeroValue5
  t9 := Tryd.underlying9
  a9 := Tryd.isAgg9
  z9 := Tryd.sizeOf9
  v9 := Tryd.zeroValue9
  t20 := Tryd.underlying20
  a20 := Tryd.isAgg20
  z20 := Tryd.sizeOf20
  v20 := Tryd.zeroValue20
  t21 := Tryd.underlying21
  a21 := Tryd.isAgg21
  z21 := Tryd.sizeOf21
  v21 := Tryd.zeroValue21
  t37 := Tryd.underlying36
  a37 := Tryd.isAgg36
  z37 := Tryd.sizeOf36
  v37 := Tryd.zeroValue36
  t46 := Tryd.underlying76
  a46 := Tryd.isAgg76
  z46 := Tryd.sizeOf76
  v46 := Tryd.zeroValue76
  t51 := Tryd.underlying35
  a51 := Tryd.isAgg35
  z51 := Tryd.sizeOf35
  v51 := Tryd.zeroValue35
  t53 := Tryd.underlying73
  a53 := Tryd.isAgg73
  z53 := Tryd.sizeOf73
  v53 := Tryd.zeroValue73
  t75 := Tryd.underlying53
  a75 := Tryd.isAgg53
  z75 := Tryd.sizeOf53
  v75 := Tryd.zeroValue53
  t76 := Tryd.underlying54
  a76 := Tryd.isAgg54
  z76 := Tryd.sizeOf54
  v76 := Tryd.zeroValue54
  t85 := Tryd.underlying65
  a85 := Tryd.isAgg65
  z85 := Tryd.sizeOf65
  v85 := Tryd.zeroValue65
  t127 := Tryd.underlying63
  a127 := Tryd.isAgg63
  z127 := Tryd.sizeOf63
  v127 := Tryd.zeroValue63
  t143 := Tryd.underlying83
  a143 := Tryd.isAgg83
  z143 := Tryd.sizeOf83
  v143 := Tryd.zeroValue83
  t145 := Tryd.underlying85
  a145 := Tryd.isAgg85
  z145 := Tryd.sizeOf85
  v145 := Tryd.zeroValue85
  t167 := Tryd.underlying64
  a167 := Tryd.isAgg64
  z167 := Tryd.sizeOf64
  v167 := Tryd.zeroValue64
  t168 := Tryd.underlying67
  a168 := Tryd.isAgg67
  z168 := Tryd.sizeOf67
  v168 := Tryd.zeroValue67
  t171 := Tryd.underlying87
  a171 := Tryd.isAgg87
  z171 := Tryd.sizeOf87
  v171 := Tryd.zeroValue87
  t173 := Tryd.underlying90
  a173 := Tryd.isAgg90
  z173 := Tryd.sizeOf90
  v173 := Tryd.zeroValue90
  t175 := Tryd.underlying74
  a175 := Tryd.isAgg74
  z175 := Tryd.sizeOf74
  v175 := Tryd.zeroValue74
  t210 := Tryd.underlying79
  a210 := Tryd.isAgg79
  z210 := Tryd.sizeOf79
  v210 := Tryd.zeroValue79
  t212 := Tryd.underlying94
  a212 := Tryd.isAgg94
  z212 := Tryd.sizeOf94
  v212 := Tryd.zeroValue94
  t213 := Tryd.underlying95
  a213 := Tryd.isAgg95
  z213 := Tryd.sizeOf95
  t232 := Tryd.underlying99
  a232 := Tryd.isAgg99
  z232 := Tryd.sizeOf99
  v232 := Tryd.zeroValue99
  t233 := Tryd.underlying100
  a233 := Tryd.isAgg100
  z233 := Tryd.sizeOf100
  v233 := Tryd.zeroValue100
  g15 := by kernel_rfl
  g16 := by kernel_rfl
  g17 := by kernel_rfl
  g18 := by kernel_rfl
  g19 := by kernel_rfl }
theorem Tryd.extraJoin : Builder.Extra Tryd.prog Tryd.laysJoin_ren := {
  sizeBuilder := by kernel_rfl
  liesBuilder := by kernel_rfl
  t5 := Tryd.laysAtoi.t5
  a5 := Tryd.laysAtoi.a5
  z5 := Tryd.laysAtoi.z5
  v5 := Tryd.laysAtoi.v5
  infoByte := by kernel_rfl
  cellsByte := by kernel_rfl
  sizeByte := by kernel_rfl
  neB5 := by decide }
end Go.Proofs

/- Contracts of package lex and of its reference, part 2: strings.Join, strconv.Atoi. -/
set_option linter.unusedVariables false
set_option linter.unusedSimpArgs false
set_option linter.unusedSectionVars false
namespace Go.Proofs.YtklecijcpkolfaaDoor.Aw
open Go Go.RowKit
set_option maxRecDepth 10000
attribute [local irreducible] AWp AOL QS One AOLg QSg NX QX TRg TX AllO Fin3
def joinS (T : List ByteArray) : ByteArray := ⟨(Lib.join (T.map (·.data.toList)) [32]).toArray⟩
theorem IR.texts {w : World} {ok : Nat → Prop} {ex : Bool} {T : List ByteArray} {v : Value} (h : IR w ok (.sl 1 ex (List.map encS T)) v) :
    ∃ Ad c, v = .slice Ad T.length c ∧ T.length ≤ c ∧ (T = [] ∨ ∃ b o, Ad = some ⟨b, o, none⟩ ∧ b < w.heap.size ∧ ∀ (j : Nat) x, T[j]? = some x → w.cell? ⟨b, o + j, none⟩ = some (.string x)) := by
  generalize hX : IC.sl 1 ex (List.map encS T) = X at h
  cases h with
  | lit => cases hX
  | mp => cases hX
  | nil sz ex' A c hx hc =>
    simp only [IC.sl.injEq] at hX
    obtain ⟨_, _, h3⟩ := hX
    have := List.map_eq_nil_iff.1 h3
    subst this
    exact ⟨A, c, rfl, Nat.zero_le _, .inl rfl⟩
  | sl sz ex' xs b o c val hb hl hc hx hok hsz hcell hin =>
    simp only [IC.sl.injEq] at hX
    obtain ⟨rfl, _, rfl⟩ := hX
    refine ⟨_, c, by rw [List.length_map], by rwa [List.length_map] at hl, .inr ⟨b, o, rfl, hb, fun j x hj => ?_⟩⟩
    have e1 : (List.map encS T)[j]? = some (encS x) := by rw [List.getElem?_map, hj]; rfl
    have h1 := hcell j _ 0 _ e1 rfl
    have h2 := hin j _ 0 _ e1 rfl
    rw [h2.litV, add_block, Nat.mul_one, Nat.add_zero] at h1
    exact h1
variable {A : Ar} (hA : A = real)
include hA
theorem join_c (T : List ByteArray) (hN : T.length ≤ 1000000) (hlen : (joinS T).size ≤ 1000000) : PureCalls Tryd.prog 24 [slP A 1 encS T, SP { data := #[32] }] (SP (joinS T)) := by
  refine ⟨rfl, fun ok w vals hs hv => ?_⟩
  have h0 := hv 0 _ rfl
  have h1 := hv 1 _ rfl
  cases h0 with | c _ _ h0 =>
  cases h1 with | c _ _ h1 =>
  rw [hid_eq hA] at h0
  obtain ⟨Ad, c, e0, hc, hT⟩ := h0.texts
  have e1 := h1.litV
  have hvals : vals = #[.slice Ad T.length c, .string { data := #[32] }] := by
    apply Array.ext
    · exact hs
    · intro i h2 h3
      match i, h3 with
      | 0, _ => simpa [Array.getD, h2] using e0
      | 1, _ => simpa [Array.getD, h2] using e1
  rw [hvals]
  have hl : (Lib.join (T.map (·.data.toList)) [32]).length ≤ 140737488355328 := by
    have : (joinS T).size = (Lib.join (T.map (·.data.toList)) [32]).length := rfl
    omega
  have key : Calls Tryd.prog 24 #[.slice Ad T.length c, .string { data := #[32] }] w fun e w' => e = .returned (.string (joinS T)) ∧ Below w.heap.size w w' := by
    rcases hT with rfl | ⟨b, o, rfl, hb, hcell⟩
    · exact (Any.strings_Join_none Tryd.laysJoin Tryd.extraJoin Ad c { data := #[32] } w).mono fun e w' ⟨he, hw⟩ => ⟨he, hw ▸ Below.refl _ _⟩
    · exact Any.strings_Join Tryd.laysJoin Tryd.extraJoin b o c T { data := #[32] } w hcell hb (by omega) hc hl
  refine key.mono ?_
  rintro e w' ⟨rfl, hb⟩
  exact ⟨_, rfl, .c _ _ (.lit _ rfl), hb⟩
theorem atoi_c (s : ByteArray) (n : Int) (hl : s.size ≤ 18) (h : Lib.atoi s.data.toList = some n) : PureCalls Tryd.prog 25 [SP s] (.tup [IP n, .c (.lit .nilIface)]) := by
  refine ⟨rfl, fun ok w vals hs hv => ?_⟩
  have h0 := hv 0 _ rfl
  cases h0 with | c _ _ h0 =>
  have e0 := h0.litV
  have hvals : vals = #[.string s] := by
    apply Array.ext
    · exact hs
    · intro i h2 h3
      match i, h3 with
      | 0, _ => simpa [Array.getD, h2] using e0
  rw [hvals]
  refine (Any.strconv_Atoi Tryd.laysAtoi s n hl h w).mono ?_
  rintro e w' ⟨rfl, t, rfl⟩
  refine ⟨_, rfl, .tup _ _ rfl fun k x hk => ?_, Lib.bytesWorld_below _ _ _⟩
  match k, hk with
  | 0, hk => obtain rfl := Option.some.inj hk; exact .c _ _ (.lit _ rfl)
  | 1, hk => obtain rfl := Option.some.inj hk; exact .c _ _ (.lit _ rfl)
end Go.Proofs.YtklecijcpkolfaaDoor.Aw

/- Contracts of package lex and of its reference, part 3: numbers. -/
set_option linter.unusedVariables false
set_option linter.unusedSimpArgs false
set_option linter.unusedSectionVars false
namespace Go.Proofs.YtklecijcpkolfaaDoor.Aw
open Go Go.RowKit
set_option maxRecDepth 10000
attribute [local irreducible] AWp AOL QS One AOLg QSg NX QX TRg TX AllO Fin3
/-- The number of a text's first figures. -/
def numN (s : ByteArray) : Nat → Nat
  | 0 => 0
  | k + 1 => numN s k * 10 + (sb s k - 48).toNat
def numB (s : ByteArray) : Bool := decide (1 ≤ s.size ∧ s.size ≤ 9 ∧ stop figB s 0 = s.size ∧ (sb s 0 = 48 → s.size = 1))
def numV (s : ByteArray) : Nat := if numB s = true then numN s s.size else 0
theorem numN_lt (s : ByteArray) : ∀ k : Nat, (∀ i : Nat, i < k → figB (sb s i) = true) → numN s k < 10 ^ k
  | 0, _ => by simp [numN]
  | k + 1, h => by
    have h1 := numN_lt s k fun i hi => h i (by omega)
    have h2 := h k (by omega)
    unfold figB at h2
    rw [decide_eq_true_eq] at h2
    rw [numN, Nat.pow_succ]
    omega
theorem numN_9 (s : ByteArray) (k : Nat) (h : ∀ i : Nat, i < k → figB (sb s i) = true) (hk : k ≤ 9) : numN s k ≤ 999999999 := by
  have h1 := numN_lt s k h
  have h2 : 10 ^ k ≤ 10 ^ 9 := Nat.pow_le_pow_right (by omega) hk
  omega
theorem figs_of {s : ByteArray} (h : stop figB s 0 = s.size) (i : Nat) (hi : i < s.size) : figB (sb s i) = true := by
  have := (stop_is figB s 0 (Nat.zero_le _)).all i (Nat.zero_le _) (by omega)
  exact this
theorem figs_to {s : ByteArray} (h : ∀ i : Nat, i < s.size → figB (sb s i) = true) : stop figB s 0 = s.size :=
  IsStop.eq ⟨Nat.zero_le _, Nat.le_refl _, fun i _ hi => h i hi, fun h => absurd h (by omega)⟩
theorem dec_num (s : ByteArray) (hf : ∀ i : Nat, i < s.size → figB (sb s i) = true) : ∀ k : Nat, k ≤ s.size → Lib.decFrom 0 (s.data.toList.take k) = some (numN s k)
  | 0, _ => by simp [Lib.decFrom, numN]
  | k + 1, hk => by
    have hl : s.data.toList.length = s.size := by rw [Array.length_toList]; rfl
    have h1 := dec_num s hf k (by omega)
    have h2 := hf k (by omega)
    have hb : s.data.toList[k]? = some (s.data.toList.getD k 0) := by
      rw [List.getD_eq_getElem?_getD, List.getElem?_eq_getElem (by omega), Option.getD_some]
    have e : sb s k = ((s.data.toList.getD k 0).toNat : Int) := rfl
    generalize s.data.toList.getD k 0 = b at hb e
    unfold figB at h2
    rw [decide_eq_true_eq, e] at h2
    have hd : Lib.digitVal b = some (b.toNat - 48) := by
      unfold Lib.digitVal
      rw [if_pos (by omega)]
    have := Lib.decFrom_take _ k 0 _ b _ h1 hb hd
    rw [this, numN, e]
    congr 1
    omega
theorem atoi_num (s : ByteArray) (hf : ∀ i : Nat, i < s.size → figB (sb s i) = true) (h0 : 1 ≤ s.size) : Lib.atoi s.data.toList = some ((numN s s.size : Nat) : Int) := by
  have hl : s.data.toList.length = s.size := by rw [Array.length_toList]; rfl
  have h1 := dec_num s hf s.size (Nat.le_refl _)
  have h2 := hf 0 (by omega)
  rw [List.take_of_length_le (by omega)] at h1
  have e : sb s (0 : Nat) = ((s.data.toList.getD 0 0).toNat : Int) := rfl
  generalize s.data.toList = l at hl h1 e
  cases l with
  | nil => simp at hl; omega
  | cons b r =>
    rw [List.getD_cons_zero] at e
    unfold figB at h2
    rw [decide_eq_true_eq, e] at h2
    have n1 : (b == 45) = false := by
      rw [beq_eq_false_iff_ne]; rintro rfl; revert h2; decide
    have n2 : (b == 43) = false := by
      rw [beq_eq_false_iff_ne]; rintro rfl; revert h2; decide
    unfold Lib.atoi Lib.decNat
    simp only [n1, n2, Bool.false_eq_true, if_false, List.isEmpty_cons]
    rw [h1]
    rfl
theorem txt_inj {a b : ByteArray} : a.toList = b.toList ↔ a = b := by
  rw [ByteArray.toList_eq, ByteArray.toList_eq]
  constructor
  · intro h
    have := Array.toList_inj.1 h
    cases a; cases b; simp_all
  · rintro rfl; rfl
theorem txt_ext {a b : ByteArray} (h : a.size = b.size) (k : ∀ i : Nat, i < a.size → sb a i = sb b i) : a = b := by
  rw [← txt_inj, ByteArray.toList_eq, ByteArray.toList_eq]
  have e1 : a.data.toList.length = a.size := by rw [Array.length_toList]; rfl
  have e2 : b.data.toList.length = b.size := by rw [Array.length_toList]; rfl
  apply List.ext_getElem
  · omega
  · intro i h1 h2
    have := k i (by omega)
    unfold sb at this
    rw [Int.toNat_natCast, List.getD_eq_getElem?_getD, List.getD_eq_getElem?_getD, List.getElem?_eq_getElem h1, List.getElem?_eq_getElem h2, Option.getD_some, Option.getD_some] at this
    exact UInt8.toNat_inj.1 (by omega)
theorem txt_empty {s : ByteArray} : s.toList = ({ data := #[] } : ByteArray).toList ↔ s.size = 0 := by
  rw [txt_inj]
  constructor
  · rintro rfl; rfl
  · intro h
    exact txt_ext (by rw [h]; rfl) (fun i hi => by omega)
theorem numB_f {s : ByteArray} (h : ¬(1 ≤ s.size ∧ s.size ≤ 9 ∧ stop figB s 0 = s.size ∧ (sb s 0 = 48 → s.size = 1))) : numB s = false ∧ numV s = 0 := by
  have : numB s = false := by unfold numB; rw [decide_eq_false_iff_not]; exact h
  exact ⟨this, by unfold numV; rw [this]; rfl⟩
theorem numB_t {s : ByteArray} (h : 1 ≤ s.size ∧ s.size ≤ 9 ∧ stop figB s 0 = s.size ∧ (sb s 0 = 48 → s.size = 1)) : numB s = true ∧ numV s = numN s s.size := by
  have : numB s = true := by unfold numB; rw [decide_eq_true_eq]; exact h
  exact ⟨this, by unfold numV; rw [this]; rfl⟩
theorem does_eqNil {P : Program} {s : St} (t : TypeId) (x : Operand) (hu : P.underlying t = some (.interface (P.methodsAt t))) (hx : s.ev x = .ic (.lit .nilIface)) :
    Does P s (fun ρ => do pure (.value (← (do eqGuard .eql t x (.const .nilIface) (ρ x) (ρ (.const .nilIface)); binOp .eql t (ρ x) (ρ (.const .nilIface)) : Sem Value)))) (.ic (.lit (.bool true))) s.st :=
  .pure fun G g w act hrel => by
    have h1 := hrel.ev x
    rw [hx] at h1
    refine ⟨_, ?_, .ic _ _ (.lit _ rfl)⟩
    have h2 : act.eval (.const .nilIface) = .nilIface := rfl
    rw [h1.lit_inv, h2]
    simp [eqGuard, run_eql_nil_nil (P := P) (w := w) t hu]
theorem One.eqNil {r : Option Nat} {P : Program} {ops : Array Oper} {i : Nat} {s : St} {t t' : TypeId} {x : Operand} (h : opAt ops i s = some (.binOp .eql t x (.const .nilIface) t')) (hu : P.underlying t = some (.interface (P.methodsAt t))) (hx : s.ev x = .ic (.lit .nilIface)) : One r P ops i s (.ic (.lit (.bool true))) s.st :=
  .does h rfl fun o hop => (does_eqNil t x hu hx).congr fun ρ => by simp only [execOp, hop]
variable {A : Ar} (hA : A = real)
include hA
theorem farFig_c (s : ByteArray) (hl : s.size ≤ 1000000) : ACalls Tryd.prog 20 [.ic (.lit (.string s)), .fn (.func 21) [.ic (.lit (.string kFig))] []] [] (fun x st' => x = .ic (.lit (.int .i64 (hid A (cN (stop figB s 0))))) ∧ st' = []) := by
  rw [← stop_congr inY_fig s 0 (Nat.zero_le _)]; exact far_c hA kFig s hl
theorem farInn_c (s : ByteArray) (hl : s.size ≤ 1000000) : ACalls Tryd.prog 20 [.ic (.lit (.string s)), .fn (.func 21) [.ic (.lit (.string kInn))] []] [] (fun x st' => x = .ic (.lit (.int .i64 (hid A (cN (stop innB s 0))))) ∧ st' = []) := by
  rw [← stop_congr inY_inn s 0 (Nat.zero_le _)]; exact far_c hA kInn s hl
theorem farBlk_c (s : ByteArray) (hl : s.size ≤ 1000000) : ACalls Tryd.prog 20 [.ic (.lit (.string s)), .fn (.func 21) [.ic (.lit (.string kBlk))] []] [] (fun x st' => x = .ic (.lit (.int .i64 (hid A (cN (stop blkB s 0))))) ∧ st' = []) := by
  rw [← stop_congr inY_blk s 0 (Nat.zero_le _)]; exact far_c hA kBlk s hl
set_option maxHeartbeats 1000000 in
theorem rNumber_c (s : ByteArray) (hl : s.size ≤ 1000000) : PureCalls Tryd.prog 17 [SP s] (.tup [IP (hid A (cN (numV s))), BP (hid A (numB s))]) := by
  by_cases hg : 1 ≤ s.size ∧ s.size ≤ 9 ∧ (sb s 0 = 48 → s.size = 1)
  · refine PureCalls.of Tryd.func17 rfl (by kernel_rfl) rfl ?_
    try first | refine AOLg.of [] ?_ | refine QSg.of [] ?_
    repeat' (first | (refine AWp.pass ?_; first | refine AWp.seq ?_ | refine AWp.block ?_ | refine AWp.skip ?_ | refine AWp.regG [] Zc ?_ | refine AWp.cond_t rfl ?_ | refine AWp.cond_f rfl ?_ | (refine AWp.cond rfl ?_ ?_ <;> intro hc <;> (try rw [hc]) <;> ((try simp only [zn] at hc) <;> (try simp (disch := omega) only [zz hA, zb, zy, reduceCtorEq, Bool.false_eq_true, Int.reduceLT, Int.reduceLE, Int.reduceNeg] at hc) <;> (try simp only [zw] at hc)) <;> (try (exfalso; omega))) | refine AWp.exit ?_ | refine AWp.ret ⟨.inr rfl, _, RetOk.ev tabOk Zc, ?_⟩) | (refine AOLg.pass ?_; refine AOLg.nx hA tabOk Zc ?_; first | refine NX.done ?_ | refine NX.gt ?_ | refine NX.gf ?_ | (refine NX.gs ?_ ?_ <;> intro hc <;> rw [hc] <;> ((try simp only [zn] at hc) <;> (try simp (disch := omega) only [zz hA, zb, zy, reduceCtorEq, Bool.false_eq_true, Int.reduceLT, Int.reduceLE, Int.reduceNeg] at hc) <;> (try simp only [zw] at hc)) <;> (try (exfalso; omega))) | refine NX.k 7 (NX.one Z7 ?_) | refine NX.k 8 (NX.one Z8 ?_) | refine NX.k 10 (NX.one Z10 ?_) | refine NX.k 13 (NX.one Z13 ?_) | refine NX.raw ?_) | refine Thn.exit ?_ | refine Blk.here ?_ | refine Blk.other (by decide) ?_ | refine ⟨.inl rfl, _, RetOk.ev tabOk Zc, ?_⟩ | fail)
    all_goals try (exfalso; omega)
    all_goals
      refine AWp.loopU (fun k : Nat => [(4, .ic (.lit (.int .i64 (hid A (cN (numN s k)))))), (5, .ic (.lit (.int .i64 (hid A (cN k)))))]) (fun _ => []) (fun k => s.size - k) (fun k => k ≤ s.size ∧ ∀ i : Nat, i < k → figB (sb s i) = true) 0 (by conv => lhs; cbv) ⟨Nat.zero_le _, by simp⟩ (by ((repeat' (first | exact subE.nil | refine subE.cons rfl ?_ | refine subE.int rfl ?_ ?_ | refine subE.bool rfl ?_ ?_ | refine subE.str rfl ?_ ?_ | refine subE.sl rfl ?_ ?_))) <;> simp [hA, real, hid, cN, numN]) rfl ?_
      rintro k ⟨hk, hall⟩
      have hn := numN_9 s k hall (by omega)
      have hbr := sb_range s k
      have hnk : numN s (k + 1) = numN s k * 10 + (sb s k - 48).toNat := rfl
      generalize hN0 : numN s k = N0 at *
      by_cases hlt : k < s.size
      · by_cases hf : figB (sb s k) = true
        · have hf' := hf
          unfold figB at hf'
          rw [decide_eq_true_eq] at hf'
          try first | refine AOLg.of [] ?_ | refine QSg.of [] ?_
          repeat' (first | (refine AWp.pass ?_; first | refine AWp.seq ?_ | refine AWp.block ?_ | refine AWp.skip ?_ | refine AWp.regG [] Zc ?_ | refine AWp.cond_t rfl ?_ | refine AWp.cond_f rfl ?_ | (refine AWp.cond rfl ?_ ?_ <;> intro hc <;> (try rw [hc]) <;> ((try simp only [zn] at hc) <;> (try simp (disch := omega) only [zz hA, zb, zy, reduceCtorEq, Bool.false_eq_true, Int.reduceLT, Int.reduceLE, Int.reduceNeg] at hc) <;> (try simp only [zw] at hc)) <;> (try (exfalso; omega))) | refine AWp.exit ?_ | refine AWp.ret ⟨.inr rfl, _, RetOk.ev tabOk Zc, ?_⟩) | (refine AOLg.pass ?_; refine AOLg.nx hA tabOk Zc ?_; first | refine NX.done ?_ | refine NX.gt ?_ | refine NX.gf ?_ | (refine NX.gs ?_ ?_ <;> intro hc <;> rw [hc] <;> ((try simp only [zn] at hc) <;> (try simp (disch := omega) only [zz hA, zb, zy, reduceCtorEq, Bool.false_eq_true, Int.reduceLT, Int.reduceLE, Int.reduceNeg] at hc) <;> (try simp only [zw] at hc)) <;> (try (exfalso; omega))) | refine NX.k 7 (NX.one Z7 ?_) | refine NX.k 8 (NX.one Z8 ?_) | refine NX.k 10 (NX.one Z10 ?_) | refine NX.k 13 (NX.one Z13 ?_) | refine NX.raw ?_) | refine Thn.exit ?_ | refine Blk.here ?_ | refine Blk.other (by decide) ?_ | refine ⟨.inl rfl, _, RetOk.ev tabOk Zc, ?_⟩ | fail)
          all_goals try (exfalso; omega)
          refine ⟨k + 1, ?_, ?_, rfl, rfl, ?_, Zk⟩ <;> (try omega)
          repeat' (first | exact subE.nil | refine subE.cons rfl ?_ | refine subE.int rfl ?_ ?_ | refine subE.bool rfl ?_ ?_ | refine subE.str rfl ?_ ?_ | refine subE.sl rfl ?_ ?_)
          · refine ⟨by omega, fun i hi => ?_⟩
            rcases Nat.lt_or_ge i k with h | h
            · exact hall i h
            · obtain rfl : i = k := by omega
              exact hf
          · rw [hnk]; exact Zd
          · exact Zd
        · have hf' := hf
          unfold figB at hf'
          rw [decide_eq_true_eq] at hf'
          have hst : ¬ stop figB s 0 = s.size := fun h => hf (figs_of h k hlt)
          obtain ⟨e1, e2⟩ := numB_f (s := s) (fun h => hst h.2.2.1)
          rw [e1, e2]
          try first | refine AOLg.of [] ?_ | refine QSg.of [] ?_
          repeat' (first | (refine AWp.pass ?_; first | refine AWp.seq ?_ | refine AWp.block ?_ | refine AWp.skip ?_ | refine AWp.regG [] Zc ?_ | refine AWp.cond_t rfl ?_ | refine AWp.cond_f rfl ?_ | (refine AWp.cond rfl ?_ ?_ <;> intro hc <;> (try rw [hc]) <;> ((try simp only [zn] at hc) <;> (try simp (disch := omega) only [zz hA, zb, zy, reduceCtorEq, Bool.false_eq_true, Int.reduceLT, Int.reduceLE, Int.reduceNeg] at hc) <;> (try simp only [zw] at hc)) <;> (try (exfalso; omega))) | refine AWp.exit ?_ | refine AWp.ret ⟨.inr rfl, _, RetOk.ev tabOk Zc, ?_⟩) | (refine AOLg.pass ?_; refine AOLg.nx hA tabOk Zc ?_; first | refine NX.done ?_ | refine NX.gt ?_ | refine NX.gf ?_ | (refine NX.gs ?_ ?_ <;> intro hc <;> rw [hc] <;> ((try simp only [zn] at hc) <;> (try simp (disch := omega) only [zz hA, zb, zy, reduceCtorEq, Bool.false_eq_true, Int.reduceLT, Int.reduceLE, Int.reduceNeg] at hc) <;> (try simp only [zw] at hc)) <;> (try (exfalso; omega))) | refine NX.k 7 (NX.one Z7 ?_) | refine NX.k 8 (NX.one Z8 ?_) | refine NX.k 10 (NX.one Z10 ?_) | refine NX.k 13 (NX.one Z13 ?_) | refine NX.raw ?_) | refine Thn.exit ?_ | refine Blk.here ?_ | refine Blk.other (by decide) ?_ | refine ⟨.inl rfl, _, RetOk.ev tabOk Zc, ?_⟩ | fail)
          all_goals first | (exfalso; omega) | (refine rPV_then (by conv => lhs; cbv) ?_; simp [hA, real, hid, cN])
      · have hks : k = s.size := by omega
        obtain ⟨e1, e2⟩ := numB_t ⟨hg.1, hg.2.1, figs_to fun i hi => hall i (by omega), hg.2.2⟩
        rw [e1, e2, ← hks, hN0]
        try first | refine AOLg.of [] ?_ | refine QSg.of [] ?_
        repeat' (first | (refine AWp.pass ?_; first | refine AWp.seq ?_ | refine AWp.block ?_ | refine AWp.skip ?_ | refine AWp.regG [] Zc ?_ | refine AWp.cond_t rfl ?_ | refine AWp.cond_f rfl ?_ | (refine AWp.cond rfl ?_ ?_ <;> intro hc <;> (try rw [hc]) <;> ((try simp only [zn] at hc) <;> (try simp (disch := omega) only [zz hA, zb, zy, reduceCtorEq, Bool.false_eq_true, Int.reduceLT, Int.reduceLE, Int.reduceNeg] at hc) <;> (try simp only [zw] at hc)) <;> (try (exfalso; omega))) | refine AWp.exit ?_ | refine AWp.ret ⟨.inr rfl, _, RetOk.ev tabOk Zc, ?_⟩) | (refine AOLg.pass ?_; refine AOLg.nx hA tabOk Zc ?_; first | refine NX.done ?_ | refine NX.gt ?_ | refine NX.gf ?_ | (refine NX.gs ?_ ?_ <;> intro hc <;> rw [hc] <;> ((try simp only [zn] at hc) <;> (try simp (disch := omega) only [zz hA, zb, zy, reduceCtorEq, Bool.false_eq_true, Int.reduceLT, Int.reduceLE, Int.reduceNeg] at hc) <;> (try simp only [zw] at hc)) <;> (try (exfalso; omega))) | refine NX.k 7 (NX.one Z7 ?_) | refine NX.k 8 (NX.one Z8 ?_) | refine NX.k 10 (NX.one Z10 ?_) | refine NX.k 13 (NX.one Z13 ?_) | refine NX.raw ?_) | refine Thn.exit ?_ | refine Blk.here ?_ | refine Blk.other (by decide) ?_ | refine ⟨.inl rfl, _, RetOk.ev tabOk Zc, ?_⟩ | fail)
        all_goals first | (exfalso; omega) | (refine rPV_then (by conv => lhs; cbv) ?_; simp [hA, real, hid, cN])
  · obtain ⟨e1, e2⟩ := numB_f (s := s) (fun h => hg ⟨h.1, h.2.1, h.2.2.2⟩)
    rw [e1, e2]
    refine PureCalls.of Tryd.func17 rfl (by kernel_rfl) rfl ?_
    try first | refine AOLg.of [] ?_ | refine QSg.of [] ?_
    repeat' (first | (refine AWp.pass ?_; first | refine AWp.seq ?_ | refine AWp.block ?_ | refine AWp.skip ?_ | refine AWp.regG [] Zc ?_ | refine AWp.cond_t rfl ?_ | refine AWp.cond_f rfl ?_ | (refine AWp.cond rfl ?_ ?_ <;> intro hc <;> (try rw [hc]) <;> ((try simp only [zn] at hc) <;> (try simp (disch := omega) only [zz hA, zb, zy, reduceCtorEq, Bool.false_eq_true, Int.reduceLT, Int.reduceLE, Int.reduceNeg] at hc) <;> (try simp only [zw] at hc)) <;> (try (exfalso; omega))) | refine AWp.exit ?_ | refine AWp.ret ⟨.inr rfl, _, RetOk.ev tabOk Zc, ?_⟩) | (refine AOLg.pass ?_; refine AOLg.nx hA tabOk Zc ?_; first | refine NX.done ?_ | refine NX.gt ?_ | refine NX.gf ?_ | (refine NX.gs ?_ ?_ <;> intro hc <;> rw [hc] <;> ((try simp only [zn] at hc) <;> (try simp (disch := omega) only [zz hA, zb, zy, reduceCtorEq, Bool.false_eq_true, Int.reduceLT, Int.reduceLE, Int.reduceNeg] at hc) <;> (try simp only [zw] at hc)) <;> (try (exfalso; omega))) | refine NX.k 7 (NX.one Z7 ?_) | refine NX.k 8 (NX.one Z8 ?_) | refine NX.k 10 (NX.one Z10 ?_) | refine NX.k 13 (NX.one Z13 ?_) | refine NX.raw ?_) | refine Thn.exit ?_ | refine Blk.here ?_ | refine Blk.other (by decide) ?_ | refine ⟨.inl rfl, _, RetOk.ev tabOk Zc, ?_⟩ | fail)
    all_goals first | (exfalso; omega) | (refine rPV_then (by conv => lhs; cbv) ?_; simp [hA, real, hid, cN])
set_option maxHeartbeats 1000000 in
theorem number_c (s : ByteArray) (hl : s.size ≤ 1000000) : PureCalls Tryd.prog 15 [SP s] (.tup [IP (hid A (cN (numV s))), BP (hid A (numB s))]) := by
  have hfar := farFig_c hA s hl
  have hst := (stop_is figB s 0 (Nat.zero_le _)).top
  by_cases hg : 1 ≤ s.size ∧ s.size ≤ 9 ∧ stop figB s 0 = s.size ∧ (sb s 0 = 48 → s.size = 1)
  · have hat := atoi_c hA s _ (by omega) (atoi_num s (figs_of hg.2.2.1) hg.1)
    obtain ⟨e1, e2⟩ := numB_t hg
    rw [e1, e2]
    generalize numN s s.size = N at *
    refine PureCalls.of Tryd.func15 rfl (by kernel_rfl) rfl ?_
    try first | refine AOLg.of [] ?_ | refine QSg.of [] ?_
    repeat' (first | (refine AWp.pass ?_; first | refine AWp.seq ?_ | refine AWp.block ?_ | refine AWp.skip ?_ | refine AWp.regG [] Zc ?_ | refine AWp.cond_t rfl ?_ | refine AWp.cond_f rfl ?_ | (refine AWp.cond rfl ?_ ?_ <;> intro hc <;> (try rw [hc]) <;> ((try simp only [zn] at hc) <;> (try simp (disch := omega) only [zz hA, zb, zy, reduceCtorEq, Bool.false_eq_true, Int.reduceLT, Int.reduceLE, Int.reduceNeg] at hc) <;> (try simp only [zw] at hc)) <;> (try (exfalso; omega))) | refine AWp.exit ?_ | refine AWp.ret ⟨.inr rfl, _, RetOk.ev tabOk Zc, ?_⟩ | refine AWp.drawVG [] rfl (by decide +kernel) Zc ?_) | (refine AOLg.pass ?_; refine AOLg.nx hA tabOk Zc ?_; first | refine NX.done ?_ | refine NX.gt ?_ | refine NX.gf ?_ | (refine NX.gs ?_ ?_ <;> intro hc <;> rw [hc] <;> ((try simp only [zn] at hc) <;> (try simp (disch := omega) only [zz hA, zb, zy, reduceCtorEq, Bool.false_eq_true, Int.reduceLT, Int.reduceLE, Int.reduceNeg] at hc) <;> (try simp only [zw] at hc)) <;> (try (exfalso; omega))) | (refine NX.kC ?_; first | (with_reducible refine NX.call (hat) ?_) | ((first | refine NX.call (hat) ?_)) | fail) | (refine NX.kO ?_; (first | refine NX.callO (hat) (by simp [allEq]) rfl ?_)) | refine NX.k 8 (NX.one Z8 ?_) | refine NX.k 10 (NX.one Z10 ?_) | refine NX.k 13 (NX.one Z13 ?_) | (refine NX.one (One.scall rfl rfl hfar) ?_) | (refine NX.one (One.eqNil rfl (by kernel_rfl) rfl) ?_) | refine NX.raw ?_) | (refine TRg.pass ?_; refine TRg.nx hA tabOk Zc ?_; first | refine TX.done ?_ | refine TX.gt ?_ | refine TX.gf ?_ | (refine TX.gs ?_ ?_ <;> intro hc <;> rw [hc] <;> ((try simp only [zn] at hc) <;> (try simp (disch := omega) only [zz hA, zb, zy, reduceCtorEq, Bool.false_eq_true, Int.reduceLT, Int.reduceLE, Int.reduceNeg] at hc) <;> (try simp only [zw] at hc)) <;> (try (exfalso; omega))) | (refine TX.kC ?_; first | (with_reducible refine TX.call (hat) ?_) | ((first | refine TX.call (hat) ?_)) | fail) | (refine TX.kO ?_; (first | refine TX.callO (hat) (by simp [allEq]) rfl ?_)) | refine TX.k 8 (TX.one Z8 ?_) | refine TX.k 10 (TX.one Z10 ?_) | refine TX.k 13 (TX.one Z13 ?_) | (refine TX.one (One.scall rfl rfl hfar) ?_) | (refine TX.one (One.eqNil rfl (by kernel_rfl) rfl) ?_) | refine TX.raw ?_) | refine Fin3.of Zc (by repeat' (first | exact True.intro | exact rfl | refine And.intro ?_ ?_)) ?_ ?_ | (refine AllO.pass ?_; first | exact AllO.nil | (refine AllO.cons (One.ev hA tabOk ?_) ?_ <;> (first | refine AllO.pass ?_ | ((conv => lhs; cbv); done))) | (refine AllO.cons (One.skipB ?_) ?_ <;> (first | refine AllO.pass ?_ | ((conv => lhs; cbv); done))) | ((with_reducible refine AllO.call Zc (hat) ?_ ?_) <;> (first | refine AllO.pass ?_ | exact rfl | exact Zd)) | refine AllO.consX ZX rfl rfl ?_ | ((refine AllO.consX (One.eqNil rfl (by kernel_rfl) rfl) rfl rfl ?_) <;> (first | refine AllO.pass ?_ | exact Zd))) | refine Thn.exit ?_ | refine Blk.here ?_ | refine Blk.other (by decide) ?_ | refine ⟨.inl rfl, _, RetOk.ev tabOk Zc, ?_⟩ | fail)
    all_goals first | (exfalso; simp only [txt_empty] at *; omega) | (refine rPV_then (by conv => lhs; cbv) ?_; simp [hA, real, hid, cN])
  · obtain ⟨e1, e2⟩ := numB_f hg
    rw [e1, e2]
    refine PureCalls.of Tryd.func15 rfl (by kernel_rfl) rfl ?_
    by_cases hp : s.size = 0
    · try first | refine AOLg.of [] ?_ | refine QSg.of [] ?_
      repeat' (first | (refine AWp.pass ?_; first | refine AWp.seq ?_ | refine AWp.block ?_ | refine AWp.skip ?_ | refine AWp.regG [] Zc ?_ | refine AWp.cond_t rfl ?_ | refine AWp.cond_f rfl ?_ | (refine AWp.cond rfl ?_ ?_ <;> intro hc <;> (try rw [hc]) <;> ((try simp only [zn] at hc) <;> (try simp (disch := omega) only [zz hA, zb, zy, reduceCtorEq, Bool.false_eq_true, Int.reduceLT, Int.reduceLE, Int.reduceNeg] at hc) <;> (try simp only [zw] at hc)) <;> (try (exfalso; omega))) | refine AWp.exit ?_ | refine AWp.ret ⟨.inr rfl, _, RetOk.ev tabOk Zc, ?_⟩ | refine AWp.drawVG [] rfl (by decide +kernel) Zc ?_) | (refine AOLg.pass ?_; refine AOLg.nx hA tabOk Zc ?_; first | refine NX.done ?_ | refine NX.gt ?_ | refine NX.gf ?_ | (refine NX.gs ?_ ?_ <;> intro hc <;> rw [hc] <;> ((try simp only [zn] at hc) <;> (try simp (disch := omega) only [zz hA, zb, zy, reduceCtorEq, Bool.false_eq_true, Int.reduceLT, Int.reduceLE, Int.reduceNeg] at hc) <;> (try simp only [zw] at hc)) <;> (try (exfalso; omega))) | refine NX.k 8 (NX.one Z8 ?_) | refine NX.k 10 (NX.one Z10 ?_) | refine NX.k 13 (NX.one Z13 ?_) | (refine NX.one (One.scall rfl rfl hfar) ?_) | refine NX.raw ?_) | (refine TRg.pass ?_; refine TRg.nx hA tabOk Zc ?_; first | refine TX.done ?_ | refine TX.gt ?_ | refine TX.gf ?_ | (refine TX.gs ?_ ?_ <;> intro hc <;> rw [hc] <;> ((try simp only [zn] at hc) <;> (try simp (disch := omega) only [zz hA, zb, zy, reduceCtorEq, Bool.false_eq_true, Int.reduceLT, Int.reduceLE, Int.reduceNeg] at hc) <;> (try simp only [zw] at hc)) <;> (try (exfalso; omega))) | refine TX.k 8 (TX.one Z8 ?_) | refine TX.k 10 (TX.one Z10 ?_) | refine TX.k 13 (TX.one Z13 ?_) | (refine TX.one (One.scall rfl rfl hfar) ?_) | refine TX.raw ?_) | refine Fin3.of Zc (by repeat' (first | exact True.intro | exact rfl | refine And.intro ?_ ?_)) ?_ ?_ | (refine AllO.pass ?_; first | exact AllO.nil | (refine AllO.cons (One.ev hA tabOk ?_) ?_ <;> (first | refine AllO.pass ?_ | ((conv => lhs; cbv); done))) | (refine AllO.cons (One.skipB ?_) ?_ <;> (first | refine AllO.pass ?_ | ((conv => lhs; cbv); done))) | refine AllO.consX ZX rfl rfl ?_) | refine Thn.exit ?_ | refine Blk.here ?_ | refine Blk.other (by decide) ?_ | refine ⟨.inl rfl, _, RetOk.ev tabOk Zc, ?_⟩ | fail)
      all_goals first | (exfalso; simp only [txt_empty] at *; omega) | (refine rPV_then (by conv => lhs; cbv) ?_; simp [hA, real, hid, cN])
    · try first | refine AOLg.of [] ?_ | refine QSg.of [] ?_
      repeat' (first | (refine AWp.pass ?_; first | refine AWp.seq ?_ | refine AWp.block ?_ | refine AWp.skip ?_ | refine AWp.regG [] Zc ?_ | refine AWp.cond_t rfl ?_ | refine AWp.cond_f rfl ?_ | (refine AWp.cond rfl ?_ ?_ <;> intro hc <;> (try rw [hc]) <;> ((try simp only [zn] at hc) <;> (try simp (disch := omega) only [zz hA, zb, zy, reduceCtorEq, Bool.false_eq_true, Int.reduceLT, Int.reduceLE, Int.reduceNeg] at hc) <;> (try simp only [zw] at hc)) <;> (try (exfalso; omega))) | refine AWp.exit ?_ | refine AWp.ret ⟨.inr rfl, _, RetOk.ev tabOk Zc, ?_⟩ | refine AWp.drawVG [] rfl (by decide +kernel) Zc ?_) | (refine AOLg.pass ?_; refine AOLg.nx hA tabOk Zc ?_; first | refine NX.done ?_ | refine NX.gt ?_ | refine NX.gf ?_ | (refine NX.gs ?_ ?_ <;> intro hc <;> rw [hc] <;> ((try simp only [zn] at hc) <;> (try simp (disch := omega) only [zz hA, zb, zy, reduceCtorEq, Bool.false_eq_true, Int.reduceLT, Int.reduceLE, Int.reduceNeg] at hc) <;> (try simp only [zw] at hc)) <;> (try (exfalso; omega))) | refine NX.k 8 (NX.one Z8 ?_) | refine NX.k 10 (NX.one Z10 ?_) | refine NX.k 13 (NX.one Z13 ?_) | (refine NX.one (One.scall rfl rfl hfar) ?_) | refine NX.raw ?_) | (refine TRg.pass ?_; refine TRg.nx hA tabOk Zc ?_; first | refine TX.done ?_ | refine TX.gt ?_ | refine TX.gf ?_ | (refine TX.gs ?_ ?_ <;> intro hc <;> rw [hc] <;> ((try simp only [zn] at hc) <;> (try simp (disch := omega) only [zz hA, zb, zy, reduceCtorEq, Bool.false_eq_true, Int.reduceLT, Int.reduceLE, Int.reduceNeg] at hc) <;> (try simp only [zw] at hc)) <;> (try (exfalso; omega))) | refine TX.k 8 (TX.one Z8 ?_) | refine TX.k 10 (TX.one Z10 ?_) | refine TX.k 13 (TX.one Z13 ?_) | (refine TX.one (One.scall rfl rfl hfar) ?_) | refine TX.raw ?_) | refine Fin3.of Zc (by repeat' (first | exact True.intro | exact rfl | refine And.intro ?_ ?_)) ?_ ?_ | (refine AllO.pass ?_; first | exact AllO.nil | (refine AllO.cons (One.ev hA tabOk ?_) ?_ <;> (first | refine AllO.pass ?_ | ((conv => lhs; cbv); done))) | (refine AllO.cons (One.skipB ?_) ?_ <;> (first | refine AllO.pass ?_ | ((conv => lhs; cbv); done))) | refine AllO.consX ZX rfl rfl ?_) | refine Thn.exit ?_ | refine Blk.here ?_ | refine Blk.other (by decide) ?_ | refine ⟨.inl rfl, _, RetOk.ev tabOk Zc, ?_⟩ | fail)
      all_goals first | (exfalso; simp only [txt_empty] at *; omega) | (refine rPV_then (by conv => lhs; cbv) ?_; simp [hA, real, hid, cN])
end Go.Proofs.YtklecijcpkolfaaDoor.Aw

/- Contracts of package lex and of its reference, part 4: a token. -/
set_option linter.unusedVariables false
set_option linter.unusedSimpArgs false
set_option linter.unusedSectionVars false
namespace Go.Proofs.YtklecijcpkolfaaDoor.Aw
open Go Go.RowKit
set_option maxRecDepth 10000
attribute [local irreducible] AWp AOL QS One AOLg QSg NX QX TRg TX AllO Fin3
/-- The kind of the token at a place (0: none), and where it ends. -/
def tokM (s : ByteArray) (a : Nat) : Int × Nat :=
  if letB (sb s a) = true then (1, stop innB s a)
  else if figB (sb s a) = true then (if numB (cutS s a (stop figB s a)) = true then (2, stop figB s a) else (0, a))
  else if a + 1 < s.size ∧ sb s (a + 1) = 61 ∧ (sb s a = 60 ∨ sb s a = 58) then (3, a + 2)
  else if sigB (sb s a) = true then (3, a + 1) else (0, a)
def tokX (s : ByteArray) (a : Nat) : ByteArray := if (tokM s a).1 = 0 then { data := #[] } else cutS s a (tokM s a).2
theorem stop_next {p : Int → Bool} {s : ByteArray} {a : Nat} (h : a < s.size) (hp : p (sb s a) = true) : stop p s a = stop p s (a + 1) := by
  obtain ⟨h1, h2, h3, h4⟩ := stop_is p s (a + 1) h
  refine IsStop.eq ⟨by omega, h2, fun i hi hj => ?_, h4⟩
  rcases Nat.lt_or_ge a i with h5 | h5
  · exact h3 i h5 hj
  · obtain rfl : i = a := by omega
    exact hp
theorem let_inn {z : Int} (h : letB z = true) : innB z = true := by
  unfold letB at h; unfold innB
  rw [decide_eq_true_eq] at *
  omega
theorem tok_top {s : ByteArray} {a : Nat} (h : a < s.size) : (tokM s a).2 ≤ s.size ∧ a ≤ (tokM s a).2 ∧ ((tokM s a).1 ≠ 0 → a < (tokM s a).2) := by
  unfold tokM
  have i1 := stop_is innB s a (by omega)
  have i2 := stop_is figB s a (by omega)
  split
  · rename_i hl
    have := stop_is innB s (a + 1) h
    have e := stop_next h (let_inn hl)
    have := this.le
    exact ⟨i1.top, i1.le, fun _ => by simp only; omega⟩
  · split
    · rename_i hf
      have := (stop_is figB s (a + 1) h).le
      have e := stop_next h hf
      split
      · exact ⟨i2.top, i2.le, fun _ => by simp only; omega⟩
      · exact ⟨by simp only; omega, Nat.le_refl _, fun h => absurd rfl h⟩
    · split
      · exact ⟨by simp only; omega, by simp only; omega, fun _ => by simp only; omega⟩
      · split
        · exact ⟨by simp only; omega, by simp only; omega, fun _ => by simp only; omega⟩
        · exact ⟨by simp only; omega, Nat.le_refl _, fun h => absurd rfl h⟩
section
variable {s : ByteArray} {a : Nat} {z : Int}
theorem tok_let (hz : z = a) (h : letB (sb s z) = true) : tokM s a = (1, stop innB s a) := by
  subst hz; unfold tokM; rw [if_pos h]
theorem tok_fig1 (hz : z = a) (hL : ¬letB (sb s z) = true) (hF : figB (sb s z) = true) (hn : numB (cutS s z (stop figB s a)) = true) : tokM s a = (2, stop figB s a) := by
  subst hz; unfold tokM; rw [if_neg hL, if_pos hF, if_pos hn]
theorem tok_fig0 (hz : z = a) (hL : ¬letB (sb s z) = true) (hF : figB (sb s z) = true) (hn : numB (cutS s z (stop figB s a)) = false) : tokM s a = (0, a) := by
  subst hz; unfold tokM; rw [if_neg hL, if_pos hF, hn, if_neg (by simp)]
theorem tok_two (hz : z = a) (hL : ¬letB (sb s z) = true) (hF : ¬figB (sb s z) = true) (h : z + 1 < s.size ∧ sb s (z + 1) = 61 ∧ (sb s z = 60 ∨ sb s z = 58)) : tokM s a = (3, a + 2) := by
  subst hz; unfold tokM; rw [if_neg hL, if_neg hF, if_pos ⟨by omega, h.2.1, h.2.2⟩]
theorem tok_one (hz : z = a) (hL : ¬letB (sb s z) = true) (hF : ¬figB (sb s z) = true) (h : ¬(z + 1 < s.size ∧ sb s (z + 1) = 61 ∧ (sb s z = 60 ∨ sb s z = 58))) (hs : sigB (sb s z) = true) : tokM s a = (3, a + 1) := by
  subst hz; unfold tokM; rw [if_neg hL, if_neg hF, if_neg (fun k => h ⟨by omega, k.2.1, k.2.2⟩), if_pos hs]
theorem tok_no (hz : z = a) (hL : ¬letB (sb s z) = true) (hF : ¬figB (sb s z) = true) (h : ¬(z + 1 < s.size ∧ sb s (z + 1) = 61 ∧ (sb s z = 60 ∨ sb s z = 58))) (hs : sigB (sb s z) = false) : tokM s a = (0, a) := by
  subst hz; unfold tokM; rw [if_neg hL, if_neg hF, if_neg (fun k => h ⟨by omega, k.2.1, k.2.2⟩), hs, if_neg (by simp)]
end
variable {A : Ar} (hA : A = real)
include hA
theorem tokFin (s : ByteArray) (a : Nat) {k : Int} (e : Nat) {z : Int} (h : tokM s a = (k, e)) (hz : z = e) : PV.tup [IP k, IP z] = PV.tup [IP (hid A (tokM s a).1), IP (hid A (cN (tokM s a).2))] := by
  subst hz; rw [h]; simp [hA, real, hid, cN]
theorem tokFin0 (s : ByteArray) {k : Int} (e : Nat) {x : ByteArray} (h : tokM s 0 = (k, e)) (hx : x = if k = 0 then { data := #[] } else cutS s 0 e) : PV.tup [IP k, SP x] = PV.tup [IP (hid A (tokM s 0).1), SP (hid A (tokX s 0))] := by
  subst hx; unfold tokX; rw [h]; simp [hA, real, hid]
theorem hasPrefixI_c (s p : ByteArray) (hs : s.size ≤ 1000000) (hp : p.size ≤ 1000000) : PureCalls Tryd.prog 38 [SP s, SP p] (BP (hid A (decide (p.size ≤ s.size ∧ (cutS s 0 p.size).toList = p.toList)))) := by
  refine PureCalls.of Tryd.func38 rfl (by kernel_rfl) rfl ?_
  try first | refine AOLg.of [] ?_ | refine QSg.of [] ?_
  repeat' (first | (refine AWp.pass ?_; first | refine AWp.seq ?_ | refine AWp.block ?_ | refine AWp.skip ?_ | refine AWp.regG [] Zc ?_ | refine AWp.cond_t rfl ?_ | refine AWp.cond_f rfl ?_ | (refine AWp.cond rfl ?_ ?_ <;> intro hc <;> (try rw [hc]) <;> ((try simp only [zn] at hc) <;> (try simp (disch := omega) only [zz hA, zb, zy, reduceCtorEq, Bool.false_eq_true, Int.reduceLT, Int.reduceLE, Int.reduceNeg] at hc) <;> (try simp only [zw] at hc)) <;> (try (exfalso; omega))) | refine AWp.exit ?_ | refine AWp.ret ⟨.inr rfl, _, RetOk.ev tabOk Zc, ?_⟩) | (refine AOLg.pass ?_; refine AOLg.nx hA tabOk Zc ?_; first | refine NX.done ?_ | refine NX.gt ?_ | refine NX.gf ?_ | (refine NX.gs ?_ ?_ <;> intro hc <;> rw [hc] <;> ((try simp only [zn] at hc) <;> (try simp (disch := omega) only [zz hA, zb, zy, reduceCtorEq, Bool.false_eq_true, Int.reduceLT, Int.reduceLE, Int.reduceNeg] at hc) <;> (try simp only [zw] at hc)) <;> (try (exfalso; omega))) | refine NX.k 2 (NX.one Z2 ?_) | refine NX.k 8 (NX.one Z8 ?_) | refine NX.k 10 (NX.one Z10 ?_) | (refine NX.one (One.strcut_hM hA tabOk rfl rfl rfl rfl rfl Zd Zd) ?_) | refine NX.raw ?_) | refine Thn.exit ?_ | refine Blk.here ?_ | refine Blk.other (by decide) ?_ | refine ⟨.inl rfl, _, RetOk.ev tabOk Zc, ?_⟩ | fail)
  all_goals
    refine rPV_then (by conv => lhs; cbv) ?_
    simp [hA, real, hid, cN, *]
    try omega
theorem hasPrefix_c (s : ByteArray) (x y : UInt8) (m n : Int) (hm : (x.toNat : Int) = m) (hn : (y.toNat : Int) = n) (hs : s.size ≤ 1000000) : PureCalls Tryd.prog 28 [SP s, SP { data := #[x, y] }] (BP (hid A (decide (1 < s.size ∧ sb s 0 = m ∧ sb s 1 = n)))) := by
  subst hm hn
  have h := hasPrefixI_c hA s { data := #[x, y] } hs (by simp [ByteArray.size])
  have e : (({ data := #[x, y] } : ByteArray).size ≤ s.size ∧ (cutS s 0 (({ data := #[x, y] } : ByteArray).size : Nat)).toList = ({ data := #[x, y] } : ByteArray).toList) ↔ (1 < s.size ∧ sb s 0 = x.toNat ∧ sb s 1 = y.toNat) := by
    have e2 : ({ data := #[x, y] } : ByteArray).size = 2 := rfl
    have g0 : sb ({ data := #[x, y] } : ByteArray) 0 = x.toNat := rfl
    have g1 : sb ({ data := #[x, y] } : ByteArray) 1 = y.toNat := rfl
    rw [txt_inj, e2]
    constructor
    · rintro ⟨h1, h2⟩
      have a0 := cutS_get s 0 2 0 (by omega) (by omega) (by omega) (by omega)
      have a1 := cutS_get s 0 2 1 (by omega) (by omega) (by omega) (by omega)
      rw [show (2 : Int) = ((2 : Nat) : Int) from rfl, h2] at a0 a1
      rw [g0] at a0
      rw [g1] at a1
      exact ⟨by omega, a0.symm, a1.symm⟩
    · rintro ⟨h1, h2, h3⟩
      refine ⟨by omega, txt_ext ?_ fun i hi => ?_⟩
      · have := cutS_size s 0 2 (by omega) (by omega) (by omega)
        rw [show (2 : Int) = ((2 : Nat) : Int) from rfl] at this
        omega
      · have := cutS_size s 0 2 (by omega) (by omega) (by omega)
        rw [show (2 : Int) = ((2 : Nat) : Int) from rfl] at this
        have a0 := cutS_get s 0 2 i (by omega) (by omega) (by omega) (by omega)
        rw [show (2 : Int) = ((2 : Nat) : Int) from rfl] at a0
        rw [a0]
        obtain h | h : i = 0 ∨ i = 1 := by omega
        · subst h; exact h2
        · subst h; exact h3
  rw [decide_eq_decide.2 e] at h
  generalize decide (1 < s.size ∧ sb s 0 = x.toNat ∧ sb s 1 = y.toNat) = b at h ⊢
  refine PureCalls.of Tryd.func28 rfl (by kernel_rfl) rfl ?_
  try first | refine AOLg.of [] ?_ | refine QSg.of [] ?_
  repeat' (first | (refine AWp.pass ?_; first | refine AWp.seq ?_ | refine AWp.block ?_ | refine AWp.skip ?_ | refine AWp.regG [] Zc ?_ | refine AWp.cond_t rfl ?_ | refine AWp.cond_f rfl ?_ | (refine AWp.cond rfl ?_ ?_ <;> intro hc <;> (try rw [hc]) <;> ((try simp only [zn] at hc) <;> (try simp (disch := omega) only [zz hA, zb, zy, reduceCtorEq, Bool.false_eq_true, Int.reduceLT, Int.reduceLE, Int.reduceNeg] at hc) <;> (try simp only [zw] at hc)) <;> (try (exfalso; omega))) | refine AWp.exit ?_ | refine AWp.ret ⟨.inr rfl, _, RetOk.ev tabOk Zc, ?_⟩) | (refine AOLg.pass ?_; refine AOLg.nx hA tabOk Zc ?_; first | refine NX.done ?_ | refine NX.gt ?_ | refine NX.gf ?_ | (refine NX.gs ?_ ?_ <;> intro hc <;> rw [hc] <;> ((try simp only [zn] at hc) <;> (try simp (disch := omega) only [zz hA, zb, zy, reduceCtorEq, Bool.false_eq_true, Int.reduceLT, Int.reduceLE, Int.reduceNeg] at hc) <;> (try simp only [zw] at hc)) <;> (try (exfalso; omega))) | (refine NX.kC ?_; first | (with_reducible refine NX.call (h) ?_) | ((first | refine NX.call (h) ?_)) | fail) | (refine NX.kO ?_; (first | refine NX.callO (h) (by simp [allEq]) rfl ?_)) | refine NX.raw ?_) | refine Thn.exit ?_ | refine Blk.here ?_ | refine Blk.other (by decide) ?_ | refine ⟨.inl rfl, _, RetOk.ev tabOk Zc, ?_⟩ | fail)
  refine rPV_then (by conv => lhs; cbv) ?_
  rfl
theorem hasB_c {k : ByteArray} {p : Int → Bool} (he : ∀ c, 0 ≤ c → c ≤ 255 → inY k c = p c) {z : Int} {b : Bool} (hz : p z = b) (h : 0 ≤ z ∧ z ≤ 255) : ∀ q, q = z → PureCalls Tryd.prog 21 [SP k, UP q] (BP b) := by
  rintro q rfl
  have := has_c hA k q
  rwa [he q h.1 h.2, hz, hid_eq hA] at this
set_option maxHeartbeats 2000000 in
theorem rToken_c (s : ByteArray) (a : Nat) (hs : s.size ≤ 1000000) (ha : a < s.size) : ∀ q : Int, q = a → PureCalls Tryd.prog 23 [SP s, IP q] (.tup [IP (hid A (tokM s a).1), IP (hid A (cN (tokM s a).2))]) := by
  intro q hq
  have hbr := sb_range s a
  have hqb : sb s q = sb s a := by rw [hq]
  by_cases hL : letB (sb s a) = true
  · have hlet : ∀ q, q = sb s a → PureCalls Tryd.prog 29 [UP q] (BP true) := by
      rintro q rfl
      have := rLetter_c hA (sb s a)
      rwa [hL, hid_eq hA] at this
    refine PureCalls.of Tryd.func23 rfl (by kernel_rfl) rfl ?_
    try first | refine AOLg.of [] ?_ | refine QSg.of [] ?_
    repeat' (first | (refine AWp.pass ?_; first | refine AWp.seq ?_ | refine AWp.block ?_ | refine AWp.skip ?_ | refine AWp.regG [] Zc ?_ | refine AWp.cond_t rfl ?_ | refine AWp.cond_f rfl ?_ | (refine AWp.cond rfl ?_ ?_ <;> intro hc <;> (try rw [hc]) <;> ((try simp only [zn] at hc) <;> (try simp (disch := omega) only [zz hA, zb, zy, reduceCtorEq, Bool.false_eq_true, Int.reduceLT, Int.reduceLE, Int.reduceNeg] at hc) <;> (try simp only [zw] at hc)) <;> (try (exfalso; omega))) | refine AWp.exit ?_ | refine AWp.ret ⟨.inr rfl, _, RetOk.ev tabOk Zc, ?_⟩) | (refine AOLg.pass ?_; refine AOLg.nx hA tabOk Zc ?_; first | refine NX.done ?_ | refine NX.gt ?_ | refine NX.gf ?_ | (refine NX.gs ?_ ?_ <;> intro hc <;> rw [hc] <;> ((try simp only [zn] at hc) <;> (try simp (disch := omega) only [zz hA, zb, zy, reduceCtorEq, Bool.false_eq_true, Int.reduceLT, Int.reduceLE, Int.reduceNeg] at hc) <;> (try simp only [zw] at hc)) <;> (try (exfalso; omega))) | (refine NX.kC ?_; first | (with_reducible refine NX.call (hlet _ (by simp only [hid_eq hA]; exact hqb)) ?_) | ((first | refine NX.call (hlet _ (by simp only [hid_eq hA]; exact hqb)) ?_)) | fail) | (refine NX.kO ?_; (first | refine NX.callO (hlet _ (by simp only [hid_eq hA]; exact hqb)) (by simp [allEq]) rfl ?_)) | refine NX.k 2 (NX.one Z2 ?_) | refine NX.k 7 (NX.one Z7 ?_) | refine NX.k 8 (NX.one Z8 ?_) | refine NX.k 10 (NX.one Z10 ?_) | refine NX.k 13 (NX.one Z13 ?_) | refine NX.raw ?_) | refine Thn.exit ?_ | refine Blk.here ?_ | refine Blk.other (by decide) ?_ | refine ⟨.inl rfl, _, RetOk.ev tabOk Zc, ?_⟩ | fail)
    refine AWp.loopU (fun n : Nat => [(6, .ic (.lit (.int .i64 (hid A (cN n)))))]) (fun _ => []) (fun n => s.size - n) (fun n => a < n ∧ n ≤ s.size ∧ ∀ i : Nat, a + 1 ≤ i → i < n → innB (sb s i) = true) (a + 1) (by conv => lhs; cbv) ⟨by omega, by omega, fun i h1 h2 => by omega⟩ (by ((repeat' (first | exact subE.nil | refine subE.cons rfl ?_ | refine subE.int rfl ?_ ?_ | refine subE.bool rfl ?_ ?_ | refine subE.str rfl ?_ ?_ | refine subE.sl rfl ?_ ?_))); exact Zd) rfl ?_
    rintro n ⟨hn0, hn, hall⟩
    by_cases hlt : n < s.size
    · have hbn := sb_range s n
      by_cases hi : innB (sb s n) = true
      · have hi' := hi
        unfold innB at hi'
        rw [decide_eq_true_eq] at hi'
        try first | refine AOLg.of [] ?_ | refine QSg.of [] ?_
        repeat' (first | (refine AWp.pass ?_; first | refine AWp.seq ?_ | refine AWp.block ?_ | refine AWp.skip ?_ | refine AWp.regG [] Zc ?_ | refine AWp.cond_t rfl ?_ | refine AWp.cond_f rfl ?_ | (refine AWp.cond rfl ?_ ?_ <;> intro hc <;> (try rw [hc]) <;> ((try simp only [zn] at hc) <;> (try simp (disch := omega) only [zz hA, zb, zy, reduceCtorEq, Bool.false_eq_true, Int.reduceLT, Int.reduceLE, Int.reduceNeg] at hc) <;> (try simp only [zw] at hc)) <;> (try (exfalso; omega))) | refine AWp.exit ?_ | refine AWp.ret ⟨.inr rfl, _, RetOk.ev tabOk Zc, ?_⟩) | (refine AOLg.pass ?_; refine AOLg.nx hA tabOk Zc ?_; first | refine NX.done ?_ | refine NX.gt ?_ | refine NX.gf ?_ | (refine NX.gs ?_ ?_ <;> intro hc <;> rw [hc] <;> ((try simp only [zn] at hc) <;> (try simp (disch := omega) only [zz hA, zb, zy, reduceCtorEq, Bool.false_eq_true, Int.reduceLT, Int.reduceLE, Int.reduceNeg] at hc) <;> (try simp only [zw] at hc)) <;> (try (exfalso; omega))) | (refine NX.kC ?_; first | (with_reducible refine NX.call (rLetter_c hA _) ?_) | (with_reducible refine NX.call (rFigure_c hA _) ?_) | ((first | refine NX.call (rLetter_c hA _) ?_ | refine NX.call (rFigure_c hA _) ?_)) | fail) | (refine NX.kO ?_; (first | refine NX.callO (rLetter_c hA _) (by simp [allEq]) rfl ?_ | refine NX.callO (rFigure_c hA _) (by simp [allEq]) rfl ?_)) | refine NX.k 2 (NX.one Z2 ?_) | refine NX.k 7 (NX.one Z7 ?_) | refine NX.k 8 (NX.one Z8 ?_) | refine NX.k 10 (NX.one Z10 ?_) | refine NX.k 13 (NX.one Z13 ?_) | refine NX.raw ?_) | refine Thn.exit ?_ | refine Blk.here ?_ | refine Blk.other (by decide) ?_ | refine ⟨.inl rfl, _, RetOk.ev tabOk Zc, ?_⟩ | fail)
        all_goals try (exfalso; simp only [letB, figB, decide_eq_true_eq, decide_eq_false_iff_not] at *; omega)
        all_goals
          refine ⟨n + 1, ?_, ?_, rfl, rfl, ?_, Zk⟩ <;> (try omega)
          repeat' (first | exact subE.nil | refine subE.cons rfl ?_ | refine subE.int rfl ?_ ?_ | refine subE.bool rfl ?_ ?_ | refine subE.str rfl ?_ ?_ | refine subE.sl rfl ?_ ?_)
          · refine ⟨by omega, by omega, fun i h1 h2 => ?_⟩
            rcases Nat.lt_or_ge i n with h | h
            · exact hall i h1 h
            · obtain rfl : i = n := by omega
              exact hi
          · exact Zd
      · have hi' := hi
        unfold innB at hi'
        rw [decide_eq_true_eq] at hi'
        have hst : stop innB s (a + 1) = n := IsStop.eq ⟨by omega, hn, hall, fun _ => Bool.eq_false_iff.2 hi⟩
        try first | refine AOLg.of [] ?_ | refine QSg.of [] ?_
        repeat' (first | (refine AWp.pass ?_; first | refine AWp.seq ?_ | refine AWp.block ?_ | refine AWp.skip ?_ | refine AWp.regG [] Zc ?_ | refine AWp.cond_t rfl ?_ | refine AWp.cond_f rfl ?_ | (refine AWp.cond rfl ?_ ?_ <;> intro hc <;> (try rw [hc]) <;> ((try simp only [zn] at hc) <;> (try simp (disch := omega) only [zz hA, zb, zy, reduceCtorEq, Bool.false_eq_true, Int.reduceLT, Int.reduceLE, Int.reduceNeg] at hc) <;> (try simp only [zw] at hc)) <;> (try (exfalso; omega))) | refine AWp.exit ?_ | refine AWp.ret ⟨.inr rfl, _, RetOk.ev tabOk Zc, ?_⟩) | (refine AOLg.pass ?_; refine AOLg.nx hA tabOk Zc ?_; first | refine NX.done ?_ | refine NX.gt ?_ | refine NX.gf ?_ | (refine NX.gs ?_ ?_ <;> intro hc <;> rw [hc] <;> ((try simp only [zn] at hc) <;> (try simp (disch := omega) only [zz hA, zb, zy, reduceCtorEq, Bool.false_eq_true, Int.reduceLT, Int.reduceLE, Int.reduceNeg] at hc) <;> (try simp only [zw] at hc)) <;> (try (exfalso; omega))) | (refine NX.kC ?_; first | (with_reducible refine NX.call (rLetter_c hA _) ?_) | (with_reducible refine NX.call (rFigure_c hA _) ?_) | ((first | refine NX.call (rLetter_c hA _) ?_ | refine NX.call (rFigure_c hA _) ?_)) | fail) | (refine NX.kO ?_; (first | refine NX.callO (rLetter_c hA _) (by simp [allEq]) rfl ?_ | refine NX.callO (rFigure_c hA _) (by simp [allEq]) rfl ?_)) | refine NX.k 2 (NX.one Z2 ?_) | refine NX.k 7 (NX.one Z7 ?_) | refine NX.k 8 (NX.one Z8 ?_) | refine NX.k 10 (NX.one Z10 ?_) | refine NX.k 13 (NX.one Z13 ?_) | refine NX.raw ?_) | refine Thn.exit ?_ | refine Blk.here ?_ | refine Blk.other (by decide) ?_ | refine ⟨.inl rfl, _, RetOk.ev tabOk Zc, ?_⟩ | fail)
        all_goals try (exfalso; simp only [letB, figB, decide_eq_true_eq, decide_eq_false_iff_not] at *; omega)
        all_goals
          refine rPV_then (by conv => lhs; cbv) ?_
          exact tokFin hA s a n (by rw [tok_let hq (by rw [hqb]; exact hL), stop_next ha (let_inn hL), hst]) (by exact Zd)
    · have hst : stop innB s (a + 1) = n := IsStop.eq ⟨by omega, hn, hall, fun h => absurd h hlt⟩
      try first | refine AOLg.of [] ?_ | refine QSg.of [] ?_
      repeat' (first | (refine AWp.pass ?_; first | refine AWp.seq ?_ | refine AWp.block ?_ | refine AWp.skip ?_ | refine AWp.regG [] Zc ?_ | refine AWp.cond_t rfl ?_ | refine AWp.cond_f rfl ?_ | (refine AWp.cond rfl ?_ ?_ <;> intro hc <;> (try rw [hc]) <;> ((try simp only [zn] at hc) <;> (try simp (disch := omega) only [zz hA, zb, zy, reduceCtorEq, Bool.false_eq_true, Int.reduceLT, Int.reduceLE, Int.reduceNeg] at hc) <;> (try simp only [zw] at hc)) <;> (try (exfalso; omega))) | refine AWp.exit ?_ | refine AWp.ret ⟨.inr rfl, _, RetOk.ev tabOk Zc, ?_⟩) | (refine AOLg.pass ?_; refine AOLg.nx hA tabOk Zc ?_; first | refine NX.done ?_ | refine NX.gt ?_ | refine NX.gf ?_ | (refine NX.gs ?_ ?_ <;> intro hc <;> rw [hc] <;> ((try simp only [zn] at hc) <;> (try simp (disch := omega) only [zz hA, zb, zy, reduceCtorEq, Bool.false_eq_true, Int.reduceLT, Int.reduceLE, Int.reduceNeg] at hc) <;> (try simp only [zw] at hc)) <;> (try (exfalso; omega))) | refine NX.k 2 (NX.one Z2 ?_) | refine NX.k 7 (NX.one Z7 ?_) | refine NX.k 8 (NX.one Z8 ?_) | refine NX.k 10 (NX.one Z10 ?_) | refine NX.k 13 (NX.one Z13 ?_) | refine NX.raw ?_) | refine Thn.exit ?_ | refine Blk.here ?_ | refine Blk.other (by decide) ?_ | refine ⟨.inl rfl, _, RetOk.ev tabOk Zc, ?_⟩ | fail)
      all_goals
        refine rPV_then (by conv => lhs; cbv) ?_
        exact tokFin hA s a n (by rw [tok_let hq (by rw [hqb]; exact hL), stop_next ha (let_inn hL), hst]) (by exact Zd)
  · have hlet : ∀ q, q = sb s a → PureCalls Tryd.prog 29 [UP q] (BP false) := by
      rintro q rfl
      have := rLetter_c hA (sb s a)
      rwa [Bool.eq_false_iff.2 hL, hid_eq hA] at this
    by_cases hF : figB (sb s a) = true
    · have hf' := hF
      unfold figB at hf'
      rw [decide_eq_true_eq] at hf'
      refine PureCalls.of Tryd.func23 rfl (by kernel_rfl) rfl ?_
      try first | refine AOLg.of [] ?_ | refine QSg.of [] ?_
      repeat' (first | (refine AWp.pass ?_; first | refine AWp.seq ?_ | refine AWp.block ?_ | refine AWp.skip ?_ | refine AWp.regG [] Zc ?_ | refine AWp.cond_t rfl ?_ | refine AWp.cond_f rfl ?_ | (refine AWp.cond rfl ?_ ?_ <;> intro hc <;> (try rw [hc]) <;> ((try simp only [zn] at hc) <;> (try simp (disch := omega) only [zz hA, zb, zy, reduceCtorEq, Bool.false_eq_true, Int.reduceLT, Int.reduceLE, Int.reduceNeg] at hc) <;> (try simp only [zw] at hc)) <;> (try (exfalso; omega))) | refine AWp.exit ?_ | refine AWp.ret ⟨.inr rfl, _, RetOk.ev tabOk Zc, ?_⟩) | (refine AOLg.pass ?_; refine AOLg.nx hA tabOk Zc ?_; first | refine NX.done ?_ | refine NX.gt ?_ | refine NX.gf ?_ | (refine NX.gs ?_ ?_ <;> intro hc <;> rw [hc] <;> ((try simp only [zn] at hc) <;> (try simp (disch := omega) only [zz hA, zb, zy, reduceCtorEq, Bool.false_eq_true, Int.reduceLT, Int.reduceLE, Int.reduceNeg] at hc) <;> (try simp only [zw] at hc)) <;> (try (exfalso; omega))) | (refine NX.kC ?_; first | (with_reducible refine NX.call (hlet _ (by simp only [hid_eq hA]; exact hqb)) ?_) | ((first | refine NX.call (hlet _ (by simp only [hid_eq hA]; exact hqb)) ?_)) | fail) | (refine NX.kO ?_; (first | refine NX.callO (hlet _ (by simp only [hid_eq hA]; exact hqb)) (by simp [allEq]) rfl ?_)) | refine NX.k 2 (NX.one Z2 ?_) | refine NX.k 7 (NX.one Z7 ?_) | refine NX.k 8 (NX.one Z8 ?_) | refine NX.k 10 (NX.one Z10 ?_) | refine NX.k 13 (NX.one Z13 ?_) | refine NX.raw ?_) | refine Thn.exit ?_ | refine Blk.here ?_ | refine Blk.other (by decide) ?_ | refine ⟨.inl rfl, _, RetOk.ev tabOk Zc, ?_⟩ | fail)
      all_goals try (exfalso; omega)
      refine AWp.loopU (fun n : Nat => [(6, .ic (.lit (.int .i64 (hid A (cN n)))))]) (fun _ => []) (fun n => s.size - n) (fun n => a < n ∧ n ≤ s.size ∧ ∀ i : Nat, a + 1 ≤ i → i < n → figB (sb s i) = true) (a + 1) (by conv => lhs; cbv) ⟨by omega, by omega, fun i h1 h2 => by omega⟩ (by ((repeat' (first | exact subE.nil | refine subE.cons rfl ?_ | refine subE.int rfl ?_ ?_ | refine subE.bool rfl ?_ ?_ | refine subE.str rfl ?_ ?_ | refine subE.sl rfl ?_ ?_))); exact Zd) rfl ?_
      rintro n ⟨hn0, hn, hall⟩
      have hL' : ¬letB (sb s q) = true := by rw [hqb]; exact hL
      have hF' : figB (sb s q) = true := by rw [hqb]; exact hF
      have hcs := cutS_size s a n (by omega) (by omega) (by omega)
      have hnum : ∀ q, q = cutS s a n → PureCalls Tryd.prog 17 [SP q] (.tup [IP (hid A (cN (numV (cutS s a n)))), BP (hid A (numB (cutS s a n)))]) := by
        rintro q rfl
        exact rNumber_c hA _ (by omega)
      by_cases hlt : n < s.size
      · have hbn := sb_range s n
        by_cases hi : figB (sb s n) = true
        · have hi' := hi
          unfold figB at hi'
          rw [decide_eq_true_eq] at hi'
          try first | refine AOLg.of [] ?_ | refine QSg.of [] ?_
          repeat' (first | (refine AWp.pass ?_; first | refine AWp.seq ?_ | refine AWp.block ?_ | refine AWp.skip ?_ | refine AWp.regG [] Zc ?_ | refine AWp.cond_t rfl ?_ | refine AWp.cond_f rfl ?_ | (refine AWp.cond rfl ?_ ?_ <;> intro hc <;> (try rw [hc]) <;> ((try simp only [zn] at hc) <;> (try simp (disch := omega) only [zz hA, zb, zy, reduceCtorEq, Bool.false_eq_true, Int.reduceLT, Int.reduceLE, Int.reduceNeg] at hc) <;> (try simp only [zw] at hc)) <;> (try (exfalso; omega))) | refine AWp.exit ?_ | refine AWp.ret ⟨.inr rfl, _, RetOk.ev tabOk Zc, ?_⟩) | (refine AOLg.pass ?_; refine AOLg.nx hA tabOk Zc ?_; first | refine NX.done ?_ | refine NX.gt ?_ | refine NX.gf ?_ | (refine NX.gs ?_ ?_ <;> intro hc <;> rw [hc] <;> ((try simp only [zn] at hc) <;> (try simp (disch := omega) only [zz hA, zb, zy, reduceCtorEq, Bool.false_eq_true, Int.reduceLT, Int.reduceLE, Int.reduceNeg] at hc) <;> (try simp only [zw] at hc)) <;> (try (exfalso; omega))) | refine NX.k 2 (NX.one Z2 ?_) | refine NX.k 7 (NX.one Z7 ?_) | refine NX.k 8 (NX.one Z8 ?_) | refine NX.k 10 (NX.one Z10 ?_) | refine NX.k 13 (NX.one Z13 ?_) | refine NX.raw ?_) | refine Thn.exit ?_ | refine Blk.here ?_ | refine Blk.other (by decide) ?_ | refine ⟨.inl rfl, _, RetOk.ev tabOk Zc, ?_⟩ | fail)
          all_goals try (exfalso; omega)
          refine ⟨n + 1, ?_, ?_, rfl, rfl, ?_, Zk⟩ <;> (try omega)
          repeat' (first | exact subE.nil | refine subE.cons rfl ?_ | refine subE.int rfl ?_ ?_ | refine subE.bool rfl ?_ ?_ | refine subE.str rfl ?_ ?_ | refine subE.sl rfl ?_ ?_)
          · refine ⟨by omega, by omega, fun i h1 h2 => ?_⟩
            rcases Nat.lt_or_ge i n with h | h
            · exact hall i h1 h
            · obtain rfl : i = n := by omega
              exact hi
          · exact Zd
        · have hi' := hi
          unfold figB at hi'
          rw [decide_eq_true_eq] at hi'
          have hst : stop figB s a = n := by rw [stop_next ha hF]; exact IsStop.eq ⟨by omega, hn, hall, fun _ => Bool.eq_false_iff.2 hi⟩
          try first | refine AOLg.of [] ?_ | refine QSg.of [] ?_
          repeat' (first | (refine AWp.pass ?_; first | refine AWp.seq ?_ | refine AWp.block ?_ | refine AWp.skip ?_ | refine AWp.regG [] Zc ?_ | refine AWp.cond_t rfl ?_ | refine AWp.cond_f rfl ?_ | (refine AWp.cond rfl ?_ ?_ <;> intro hc <;> (try rw [hc]) <;> ((try simp only [zn] at hc) <;> (try simp (disch := omega) only [zz hA, zb, zy, reduceCtorEq, Bool.false_eq_true, Int.reduceLT, Int.reduceLE, Int.reduceNeg] at hc) <;> (try simp only [zw] at hc)) <;> (try (exfalso; omega))) | refine AWp.exit ?_ | refine AWp.ret ⟨.inr rfl, _, RetOk.ev tabOk Zc, ?_⟩) | (refine AOLg.pass ?_; refine AOLg.nx hA tabOk Zc ?_; first | refine NX.done ?_ | refine NX.gt ?_ | refine NX.gf ?_ | (refine NX.gs ?_ ?_ <;> intro hc <;> rw [hc] <;> ((try simp only [zn] at hc) <;> (try simp (disch := omega) only [zz hA, zb, zy, reduceCtorEq, Bool.false_eq_true, Int.reduceLT, Int.reduceLE, Int.reduceNeg] at hc) <;> (try simp only [zw] at hc)) <;> (try (exfalso; omega))) | (refine NX.kC ?_; first | (with_reducible refine NX.call (hnum _ (by simp only [hid_eq hA, cN, hq])) ?_) | ((first | refine NX.call (hnum _ (by simp only [hid_eq hA, cN, hq])) ?_)) | fail) | (refine NX.kO ?_; (first | refine NX.callO (hnum _ (by simp only [hid_eq hA, cN, hq])) (by simp [allEq]) rfl ?_)) | refine NX.k 2 (NX.one Z2 ?_) | refine NX.k 7 (NX.one Z7 ?_) | refine NX.k 8 (NX.one Z8 ?_) | refine NX.k 10 (NX.one Z10 ?_) | refine NX.k 13 (NX.one Z13 ?_) | (refine NX.one (One.strcut_lhM hA tabOk rfl rfl rfl rfl rfl rfl Zd Zd Zd) ?_) | refine NX.raw ?_) | refine Thn.exit ?_ | refine Blk.here ?_ | refine Blk.other (by decide) ?_ | refine ⟨.inl rfl, _, RetOk.ev tabOk Zc, ?_⟩ | fail)
          all_goals try (exfalso; omega)
          all_goals
            refine rPV_then (by conv => lhs; cbv) ?_
            first
              | exact tokFin hA s a n (by rw [tok_fig1 hq hL' hF' (by rw [hst, hq]; assumption), hst]) (by exact Zd)
              | exact tokFin hA s a _ (tok_fig0 hq hL' hF' (by rw [hst, hq]; assumption)) hq
      · have hst : stop figB s a = n := by rw [stop_next ha hF]; exact IsStop.eq ⟨by omega, hn, hall, fun h => absurd h hlt⟩
        try first | refine AOLg.of [] ?_ | refine QSg.of [] ?_
        repeat' (first | (refine AWp.pass ?_; first | refine AWp.seq ?_ | refine AWp.block ?_ | refine AWp.skip ?_ | refine AWp.regG [] Zc ?_ | refine AWp.cond_t rfl ?_ | refine AWp.cond_f rfl ?_ | (refine AWp.cond rfl ?_ ?_ <;> intro hc <;> (try rw [hc]) <;> ((try simp only [zn] at hc) <;> (try simp (disch := omega) only [zz hA, zb, zy, reduceCtorEq, Bool.false_eq_true, Int.reduceLT, Int.reduceLE, Int.reduceNeg] at hc) <;> (try simp only [zw] at hc)) <;> (try (exfalso; omega))) | refine AWp.exit ?_ | refine AWp.ret ⟨.inr rfl, _, RetOk.ev tabOk Zc, ?_⟩) | (refine AOLg.pass ?_; refine AOLg.nx hA tabOk Zc ?_; first | refine NX.done ?_ | refine NX.gt ?_ | refine NX.gf ?_ | (refine NX.gs ?_ ?_ <;> intro hc <;> rw [hc] <;> ((try simp only [zn] at hc) <;> (try simp (disch := omega) only [zz hA, zb, zy, reduceCtorEq, Bool.false_eq_true, Int.reduceLT, Int.reduceLE, Int.reduceNeg] at hc) <;> (try simp only [zw] at hc)) <;> (try (exfalso; omega))) | (refine NX.kC ?_; first | (with_reducible refine NX.call (hnum _ (by simp only [hid_eq hA, cN, hq])) ?_) | ((first | refine NX.call (hnum _ (by simp only [hid_eq hA, cN, hq])) ?_)) | fail) | (refine NX.kO ?_; (first | refine NX.callO (hnum _ (by simp only [hid_eq hA, cN, hq])) (by simp [allEq]) rfl ?_)) | refine NX.k 2 (NX.one Z2 ?_) | refine NX.k 7 (NX.one Z7 ?_) | refine NX.k 8 (NX.one Z8 ?_) | refine NX.k 10 (NX.one Z10 ?_) | refine NX.k 13 (NX.one Z13 ?_) | (refine NX.one (One.strcut_lhM hA tabOk rfl rfl rfl rfl rfl rfl Zd Zd Zd) ?_) | refine NX.raw ?_) | refine Thn.exit ?_ | refine Blk.here ?_ | refine Blk.other (by decide) ?_ | refine ⟨.inl rfl, _, RetOk.ev tabOk Zc, ?_⟩ | fail)
        all_goals
          refine rPV_then (by conv => lhs; cbv) ?_
          first
            | exact tokFin hA s a n (by rw [tok_fig1 hq hL' hF' (by rw [hst, hq]; assumption), hst]) (by exact Zd)
            | exact tokFin hA s a _ (tok_fig0 hq hL' hF' (by rw [hst, hq]; assumption)) hq
    · have hf' := hF
      unfold figB at hf'
      rw [decide_eq_true_eq] at hf'
      have hqn : sb s (A .add .i64 q 1) = sb s (a + 1) := by rw [show A .add .i64 q 1 = (a : Int) + 1 by exact Zd]
      refine PureCalls.of Tryd.func23 rfl (by kernel_rfl) rfl ?_
      have e1 : A .add .i64 q 1 = (a + 1 : Nat) := by exact Zd
      have e2 : A .add .i64 q 2 = (a + 2 : Nat) := by exact Zd
      have hL' : ¬letB (sb s q) = true := by rw [hqb]; exact hL
      have hF' : ¬figB (sb s q) = true := by rw [hqb]; exact hF
      try first | refine AOLg.of [] ?_ | refine QSg.of [] ?_
      repeat' (first | (refine AWp.pass ?_; first | refine AWp.seq ?_ | refine AWp.block ?_ | refine AWp.skip ?_ | refine AWp.regG [] Zc ?_ | refine AWp.cond_t rfl ?_ | refine AWp.cond_f rfl ?_ | (refine AWp.cond rfl ?_ ?_ <;> intro hc <;> (try rw [hc]) <;> ((try simp only [zn] at hc) <;> (try simp (disch := omega) only [zz hA, zb, zy, reduceCtorEq, Bool.false_eq_true, Int.reduceLT, Int.reduceLE, Int.reduceNeg] at hc) <;> (try simp only [zw] at hc)) <;> (try (exfalso; omega))) | refine AWp.exit ?_ | refine AWp.ret ⟨.inr rfl, _, RetOk.ev tabOk Zc, ?_⟩) | (refine AOLg.pass ?_; refine AOLg.nx hA tabOk Zc ?_; first | refine NX.done ?_ | refine NX.gt ?_ | refine NX.gf ?_ | (refine NX.gs ?_ ?_ <;> intro hc <;> rw [hc] <;> ((try simp only [zn] at hc) <;> (try simp (disch := omega) only [zz hA, zb, zy, reduceCtorEq, Bool.false_eq_true, Int.reduceLT, Int.reduceLE, Int.reduceNeg] at hc) <;> (try simp only [zw] at hc)) <;> (try (exfalso; omega))) | (refine NX.kC ?_; first | (with_reducible refine NX.call (hlet _ (by simp only [hid_eq hA]; exact hqb)) ?_) | (with_reducible refine NX.call (rSign_c hA _) ?_) | ((first | refine NX.call (hlet _ (by simp only [hid_eq hA]; exact hqb)) ?_ | refine NX.call (rSign_c hA _) ?_)) | fail) | (refine NX.kO ?_; (first | refine NX.callO (hlet _ (by simp only [hid_eq hA]; exact hqb)) (by simp [allEq]) rfl ?_ | refine NX.callO (rSign_c hA _) (by simp [allEq]) rfl ?_)) | refine NX.k 2 (NX.one Z2 ?_) | refine NX.k 7 (NX.one Z7 ?_) | refine NX.k 8 (NX.one Z8 ?_) | refine NX.k 10 (NX.one Z10 ?_) | refine NX.k 13 (NX.one Z13 ?_) | refine NX.raw ?_) | refine Thn.exit ?_ | refine Blk.here ?_ | refine Blk.other (by decide) ?_ | refine ⟨.inl rfl, _, RetOk.ev tabOk Zc, ?_⟩ | fail)
      all_goals try (exfalso; omega)
      all_goals
        refine rPV_then (by conv => lhs; cbv) ?_
        first
          | exact tokFin hA s a _ (tok_two hq hL' hF' (by omega)) e2
          | exact tokFin hA s a _ (tok_one hq hL' hF' (by omega) (by assumption)) e1
          | exact tokFin hA s a _ (tok_no hq hL' hF' (by omega) (by assumption)) hq
set_option maxHeartbeats 2000000 in
theorem token_c (s : ByteArray) (hs : s.size ≤ 1000000) (ha : 0 < s.size) : PureCalls Tryd.prog 22 [SP s] (.tup [IP (hid A (tokM s 0).1), SP (hid A (tokX s 0))]) := by
  have hbr := sb_range s 0
  have f1 := farInn_c hA s hs
  have f2 := farFig_c hA s hs
  have t1 := (stop_is innB s 0 (Nat.zero_le _)).top
  have t2 := (stop_is figB s 0 (Nat.zero_le _)).top
  have hn : ∀ q, q = cutS s 0 (stop figB s 0) → PureCalls Tryd.prog 15 [SP q] (.tup [IP (hid A (cN (numV q))), BP (hid A (numB q))]) := by
    rintro q rfl
    refine number_c hA _ ?_
    have := cutS_size s 0 (stop figB s 0) (by omega) (by omega) (by omega)
    omega
  by_cases hL : letB (sb s 0) = true
  · have hlet := hasB_c hA inY_let hL hbr
    refine PureCalls.of Tryd.func22 rfl (by kernel_rfl) rfl ?_
    try first | refine AOLg.of [] ?_ | refine QSg.of [] ?_
    repeat' (first | (refine AWp.pass ?_; first | refine AWp.seq ?_ | refine AWp.block ?_ | refine AWp.skip ?_ | refine AWp.regG [] Zc ?_ | refine AWp.cond_t rfl ?_ | refine AWp.cond_f rfl ?_ | (refine AWp.cond rfl ?_ ?_ <;> intro hc <;> (try rw [hc]) <;> ((try simp only [zn] at hc) <;> (try simp (disch := omega) only [zz hA, zb, zy, reduceCtorEq, Bool.false_eq_true, Int.reduceLT, Int.reduceLE, Int.reduceNeg] at hc) <;> (try simp only [zw] at hc)) <;> (try (exfalso; omega))) | refine AWp.exit ?_ | refine AWp.ret ⟨.inr rfl, _, RetOk.ev tabOk Zc, ?_⟩ | refine AWp.drawVG [] rfl (by decide +kernel) Zc ?_) | (refine AOLg.pass ?_; refine AOLg.nx hA tabOk Zc ?_; first | refine NX.done ?_ | refine NX.gt ?_ | refine NX.gf ?_ | (refine NX.gs ?_ ?_ <;> intro hc <;> rw [hc] <;> ((try simp only [zn] at hc) <;> (try simp (disch := omega) only [zz hA, zb, zy, reduceCtorEq, Bool.false_eq_true, Int.reduceLT, Int.reduceLE, Int.reduceNeg] at hc) <;> (try simp only [zw] at hc)) <;> (try (exfalso; omega))) | (refine NX.kC ?_; first | (with_reducible refine NX.call (hlet _ (by simp only [hid_eq hA])) ?_) | ((first | refine NX.call (hlet _ (by simp only [hid_eq hA])) ?_)) | fail) | (refine NX.kO ?_; (first | refine NX.callO (hlet _ (by simp only [hid_eq hA])) (by simp [allEq]) rfl ?_)) | refine NX.k 2 (NX.one Z2 ?_) | refine NX.k 13 (NX.one Z13 ?_) | (refine NX.one (One.scall rfl rfl f1) ?_) | (refine NX.one (One.strcut_hM hA tabOk rfl rfl rfl rfl rfl Zd Zd) ?_) | refine NX.raw ?_) | (refine TRg.pass ?_; refine TRg.nx hA tabOk Zc ?_; first | refine TX.done ?_ | refine TX.gt ?_ | refine TX.gf ?_ | (refine TX.gs ?_ ?_ <;> intro hc <;> rw [hc] <;> ((try simp only [zn] at hc) <;> (try simp (disch := omega) only [zz hA, zb, zy, reduceCtorEq, Bool.false_eq_true, Int.reduceLT, Int.reduceLE, Int.reduceNeg] at hc) <;> (try simp only [zw] at hc)) <;> (try (exfalso; omega))) | (refine TX.kC ?_; first | (with_reducible refine TX.call (hlet _ (by simp only [hid_eq hA])) ?_) | ((first | refine TX.call (hlet _ (by simp only [hid_eq hA])) ?_)) | fail) | (refine TX.kO ?_; (first | refine TX.callO (hlet _ (by simp only [hid_eq hA])) (by simp [allEq]) rfl ?_)) | refine TX.k 2 (TX.one Z2 ?_) | refine TX.k 13 (TX.one Z13 ?_) | (refine TX.one (One.scall rfl rfl f1) ?_) | (refine TX.one (One.strcut_hM hA tabOk rfl rfl rfl rfl rfl Zd Zd) ?_) | refine TX.raw ?_) | refine Fin3.of Zc (by repeat' (first | exact True.intro | exact rfl | refine And.intro ?_ ?_)) ?_ ?_ | (refine AllO.pass ?_; first | exact AllO.nil | (refine AllO.cons (One.ev hA tabOk ?_) ?_ <;> (first | refine AllO.pass ?_ | ((conv => lhs; cbv); done))) | (refine AllO.cons (One.skipB ?_) ?_ <;> (first | refine AllO.pass ?_ | ((conv => lhs; cbv); done))) | ((with_reducible refine AllO.call Zc (hlet _ (by simp only [hid_eq hA])) ?_ ?_) <;> (first | refine AllO.pass ?_ | exact rfl | exact Zd)) | refine AllO.consX ZX rfl rfl ?_ | ((refine AllO.consX (One.strcut_hM hA tabOk rfl rfl rfl rfl rfl Zd Zd) rfl rfl ?_) <;> (first | refine AllO.pass ?_ | exact Zd))) | refine Thn.exit ?_ | refine Blk.here ?_ | refine Blk.other (by decide) ?_ | refine ⟨.inl rfl, _, RetOk.ev tabOk Zc, ?_⟩ | fail)
    all_goals
      refine rPV_then (by conv => lhs; cbv) ?_
      exact tokFin0 hA s _ (tok_let (z := 0) rfl hL) (by simp [hA, real, hid, cN])
  · have hlet := hasB_c hA inY_let (Bool.eq_false_iff.2 hL) hbr
    by_cases hF : figB (sb s 0) = true
    · have hfig := hasB_c hA inY_fig hF hbr
      refine PureCalls.of Tryd.func22 rfl (by kernel_rfl) rfl ?_
      try first | refine AOLg.of [] ?_ | refine QSg.of [] ?_
      repeat' (first | (refine AWp.pass ?_; first | refine AWp.seq ?_ | refine AWp.block ?_ | refine AWp.skip ?_ | refine AWp.regG [] Zc ?_ | refine AWp.cond_t rfl ?_ | refine AWp.cond_f rfl ?_ | (refine AWp.cond rfl ?_ ?_ <;> intro hc <;> (try rw [hc]) <;> ((try simp only [zn] at hc) <;> (try simp (disch := omega) only [zz hA, zb, zy, reduceCtorEq, Bool.false_eq_true, Int.reduceLT, Int.reduceLE, Int.reduceNeg] at hc) <;> (try simp only [zw] at hc)) <;> (try (exfalso; omega))) | refine AWp.exit ?_ | refine AWp.ret ⟨.inr rfl, _, RetOk.ev tabOk Zc, ?_⟩ | refine AWp.drawVG [] rfl (by decide +kernel) Zc ?_) | (refine AOLg.pass ?_; refine AOLg.nx hA tabOk Zc ?_; first | refine NX.done ?_ | refine NX.gt ?_ | refine NX.gf ?_ | (refine NX.gs ?_ ?_ <;> intro hc <;> rw [hc] <;> ((try simp only [zn] at hc) <;> (try simp (disch := omega) only [zz hA, zb, zy, reduceCtorEq, Bool.false_eq_true, Int.reduceLT, Int.reduceLE, Int.reduceNeg] at hc) <;> (try simp only [zw] at hc)) <;> (try (exfalso; omega))) | (refine NX.kC ?_; first | (with_reducible refine NX.call (hlet _ (by simp only [hid_eq hA])) ?_) | (with_reducible refine NX.call (hfig _ (by simp only [hid_eq hA])) ?_) | (with_reducible refine NX.call (hn _ (by simp only [hid_eq hA, cN])) ?_) | ((first | refine NX.call (hlet _ (by simp only [hid_eq hA])) ?_ | refine NX.call (hfig _ (by simp only [hid_eq hA])) ?_ | refine NX.call (hn _ (by simp only [hid_eq hA, cN])) ?_)) | fail) | (refine NX.kO ?_; (first | refine NX.callO (hlet _ (by simp only [hid_eq hA])) (by simp [allEq]) rfl ?_ | refine NX.callO (hfig _ (by simp only [hid_eq hA])) (by simp [allEq]) rfl ?_ | refine NX.callO (hn _ (by simp only [hid_eq hA, cN])) (by simp [allEq]) rfl ?_)) | refine NX.k 2 (NX.one Z2 ?_) | refine NX.k 13 (NX.one Z13 ?_) | (refine NX.one (One.scall rfl rfl f2) ?_) | (refine NX.one (One.strcut_hM hA tabOk rfl rfl rfl rfl rfl Zd Zd) ?_) | refine NX.raw ?_) | (refine TRg.pass ?_; refine TRg.nx hA tabOk Zc ?_; first | refine TX.done ?_ | refine TX.gt ?_ | refine TX.gf ?_ | (refine TX.gs ?_ ?_ <;> intro hc <;> rw [hc] <;> ((try simp only [zn] at hc) <;> (try simp (disch := omega) only [zz hA, zb, zy, reduceCtorEq, Bool.false_eq_true, Int.reduceLT, Int.reduceLE, Int.reduceNeg] at hc) <;> (try simp only [zw] at hc)) <;> (try (exfalso; omega))) | (refine TX.kC ?_; first | (with_reducible refine TX.call (hlet _ (by simp only [hid_eq hA])) ?_) | (with_reducible refine TX.call (hfig _ (by simp only [hid_eq hA])) ?_) | (with_reducible refine TX.call (hn _ (by simp only [hid_eq hA, cN])) ?_) | ((first | refine TX.call (hlet _ (by simp only [hid_eq hA])) ?_ | refine TX.call (hfig _ (by simp only [hid_eq hA])) ?_ | refine TX.call (hn _ (by simp only [hid_eq hA, cN])) ?_)) | fail) | (refine TX.kO ?_; (first | refine TX.callO (hlet _ (by simp only [hid_eq hA])) (by simp [allEq]) rfl ?_ | refine TX.callO (hfig _ (by simp only [hid_eq hA])) (by simp [allEq]) rfl ?_ | refine TX.callO (hn _ (by simp only [hid_eq hA, cN])) (by simp [allEq]) rfl ?_)) | refine TX.k 2 (TX.one Z2 ?_) | refine TX.k 13 (TX.one Z13 ?_) | (refine TX.one (One.scall rfl rfl f2) ?_) | (refine TX.one (One.strcut_hM hA tabOk rfl rfl rfl rfl rfl Zd Zd) ?_) | refine TX.raw ?_) | refine Fin3.of Zc (by repeat' (first | exact True.intro | exact rfl | refine And.intro ?_ ?_)) ?_ ?_ | (refine AllO.pass ?_; first | exact AllO.nil | (refine AllO.cons (One.ev hA tabOk ?_) ?_ <;> (first | refine AllO.pass ?_ | ((conv => lhs; cbv); done))) | (refine AllO.cons (One.skipB ?_) ?_ <;> (first | refine AllO.pass ?_ | ((conv => lhs; cbv); done))) | ((with_reducible refine AllO.call Zc (hlet _ (by simp only [hid_eq hA])) ?_ ?_) <;> (first | refine AllO.pass ?_ | exact rfl | exact Zd)) | ((with_reducible refine AllO.call Zc (hfig _ (by simp only [hid_eq hA])) ?_ ?_) <;> (first | refine AllO.pass ?_ | exact rfl | exact Zd)) | ((with_reducible refine AllO.call Zc (hn _ (by simp only [hid_eq hA, cN])) ?_ ?_) <;> (first | refine AllO.pass ?_ | exact rfl | exact Zd)) | refine AllO.consX ZX rfl rfl ?_ | ((refine AllO.consX (One.strcut_hM hA tabOk rfl rfl rfl rfl rfl Zd Zd) rfl rfl ?_) <;> (first | refine AllO.pass ?_ | exact Zd))) | refine Thn.exit ?_ | refine Blk.here ?_ | refine Blk.other (by decide) ?_ | refine ⟨.inl rfl, _, RetOk.ev tabOk Zc, ?_⟩ | fail)
      all_goals
        refine rPV_then (by conv => lhs; cbv) ?_
        first
          | exact tokFin0 hA s _ (tok_fig1 (z := 0) rfl hL hF (by assumption)) (by simp [hA, real, hid, cN])
          | exact tokFin0 hA s _ (tok_fig0 (z := 0) rfl hL hF (by assumption)) (by simp)
    · have hfig := hasB_c hA inY_fig (Bool.eq_false_iff.2 hF) hbr
      have p1 := hasPrefix_c hA s 60 61 60 61 rfl rfl hs
      have p2 := hasPrefix_c hA s 58 61 58 61 rfl rfl hs
      have hsg : ∀ q, q = sb s 0 → PureCalls Tryd.prog 27 [SP kSig, UP q] (IP (hid A (idxY kSig (sb s 0)))) := by rintro q rfl; exact indexB_c hA kSig _
      have hsi := inY_sig _ hbr.1 hbr.2
      have z1 : (0 : Int) + 1 = 1 := rfl
      unfold inY at hsi
      generalize idxY kSig (sb s 0) = n at hsg hsi
      refine PureCalls.of Tryd.func22 rfl (by kernel_rfl) rfl ?_
      try first | refine AOLg.of [] ?_ | refine QSg.of [] ?_
      repeat' (first | (refine AWp.pass ?_; first | refine AWp.seq ?_ | refine AWp.block ?_ | refine AWp.skip ?_ | refine AWp.regG [] Zc ?_ | refine AWp.cond_t rfl ?_ | refine AWp.cond_f rfl ?_ | (refine AWp.cond rfl ?_ ?_ <;> intro hc <;> (try rw [hc]) <;> ((try simp only [zn] at hc) <;> (try simp (disch := omega) only [zz hA, zb, zy, reduceCtorEq, Bool.false_eq_true, Int.reduceLT, Int.reduceLE, Int.reduceNeg] at hc) <;> (try simp only [zw] at hc)) <;> (try (exfalso; omega))) | refine AWp.exit ?_ | refine AWp.ret ⟨.inr rfl, _, RetOk.ev tabOk Zc, ?_⟩ | refine AWp.drawVG [] rfl (by decide +kernel) Zc ?_) | (refine AOLg.pass ?_; refine AOLg.nx hA tabOk Zc ?_; first | refine NX.done ?_ | refine NX.gt ?_ | refine NX.gf ?_ | (refine NX.gs ?_ ?_ <;> intro hc <;> rw [hc] <;> ((try simp only [zn] at hc) <;> (try simp (disch := omega) only [zz hA, zb, zy, reduceCtorEq, Bool.false_eq_true, Int.reduceLT, Int.reduceLE, Int.reduceNeg] at hc) <;> (try simp only [zw] at hc)) <;> (try (exfalso; omega))) | (refine NX.kC ?_; first | (with_reducible refine NX.call (hlet _ (by simp only [hid_eq hA])) ?_) | (with_reducible refine NX.call (hfig _ (by simp only [hid_eq hA])) ?_) | (with_reducible refine NX.call (p1) ?_) | (with_reducible refine NX.call (p2) ?_) | (with_reducible refine NX.call (hsg _ (by simp only [hid_eq hA])) ?_) | ((first | refine NX.call (hlet _ (by simp only [hid_eq hA])) ?_ | refine NX.call (hfig _ (by simp only [hid_eq hA])) ?_ | refine NX.call (p1) ?_ | refine NX.call (p2) ?_ | refine NX.call (hsg _ (by simp only [hid_eq hA])) ?_)) | fail) | (refine NX.kO ?_; (first | refine NX.callO (hlet _ (by simp only [hid_eq hA])) (by simp [allEq]) rfl ?_ | refine NX.callO (hfig _ (by simp only [hid_eq hA])) (by simp [allEq]) rfl ?_ | refine NX.callO (p1) (by simp [allEq]) rfl ?_ | refine NX.callO (p2) (by simp [allEq]) rfl ?_ | refine NX.callO (hsg _ (by simp only [hid_eq hA])) (by simp [allEq]) rfl ?_)) | refine NX.k 2 (NX.one Z2 ?_) | refine NX.k 13 (NX.one Z13 ?_) | (refine NX.one (One.strcut_hM hA tabOk rfl rfl rfl rfl rfl Zd Zd) ?_) | refine NX.raw ?_) | (refine TRg.pass ?_; refine TRg.nx hA tabOk Zc ?_; first | refine TX.done ?_ | refine TX.gt ?_ | refine TX.gf ?_ | (refine TX.gs ?_ ?_ <;> intro hc <;> rw [hc] <;> ((try simp only [zn] at hc) <;> (try simp (disch := omega) only [zz hA, zb, zy, reduceCtorEq, Bool.false_eq_true, Int.reduceLT, Int.reduceLE, Int.reduceNeg] at hc) <;> (try simp only [zw] at hc)) <;> (try (exfalso; omega))) | (refine TX.kC ?_; first | (with_reducible refine TX.call (hlet _ (by simp only [hid_eq hA])) ?_) | (with_reducible refine TX.call (hfig _ (by simp only [hid_eq hA])) ?_) | (with_reducible refine TX.call (p1) ?_) | (with_reducible refine TX.call (p2) ?_) | (with_reducible refine TX.call (hsg _ (by simp only [hid_eq hA])) ?_) | ((first | refine TX.call (hlet _ (by simp only [hid_eq hA])) ?_ | refine TX.call (hfig _ (by simp only [hid_eq hA])) ?_ | refine TX.call (p1) ?_ | refine TX.call (p2) ?_ | refine TX.call (hsg _ (by simp only [hid_eq hA])) ?_)) | fail) | (refine TX.kO ?_; (first | refine TX.callO (hlet _ (by simp only [hid_eq hA])) (by simp [allEq]) rfl ?_ | refine TX.callO (hfig _ (by simp only [hid_eq hA])) (by simp [allEq]) rfl ?_ | refine TX.callO (p1) (by simp [allEq]) rfl ?_ | refine TX.callO (p2) (by simp [allEq]) rfl ?_ | refine TX.callO (hsg _ (by simp only [hid_eq hA])) (by simp [allEq]) rfl ?_)) | refine TX.k 2 (TX.one Z2 ?_) | refine TX.k 13 (TX.one Z13 ?_) | (refine TX.one (One.strcut_hM hA tabOk rfl rfl rfl rfl rfl Zd Zd) ?_) | refine TX.raw ?_) | refine Fin3.of Zc (by repeat' (first | exact True.intro | exact rfl | refine And.intro ?_ ?_)) ?_ ?_ | (refine AllO.pass ?_; first | exact AllO.nil | (refine AllO.cons (One.ev hA tabOk ?_) ?_ <;> (first | refine AllO.pass ?_ | ((conv => lhs; cbv); done))) | (refine AllO.cons (One.skipB ?_) ?_ <;> (first | refine AllO.pass ?_ | ((conv => lhs; cbv); done))) | ((with_reducible refine AllO.call Zc (hlet _ (by simp only [hid_eq hA])) ?_ ?_) <;> (first | refine AllO.pass ?_ | exact rfl | exact Zd)) | ((with_reducible refine AllO.call Zc (hfig _ (by simp only [hid_eq hA])) ?_ ?_) <;> (first | refine AllO.pass ?_ | exact rfl | exact Zd)) | ((with_reducible refine AllO.call Zc (p1) ?_ ?_) <;> (first | refine AllO.pass ?_ | exact rfl | exact Zd)) | ((with_reducible refine AllO.call Zc (p2) ?_ ?_) <;> (first | refine AllO.pass ?_ | exact rfl | exact Zd)) | ((with_reducible refine AllO.call Zc (hsg _ (by simp only [hid_eq hA])) ?_ ?_) <;> (first | refine AllO.pass ?_ | exact rfl | exact Zd)) | refine AllO.consX ZX rfl rfl ?_ | ((refine AllO.consX (One.strcut_hM hA tabOk rfl rfl rfl rfl rfl Zd Zd) rfl rfl ?_) <;> (first | refine AllO.pass ?_ | exact Zd))) | refine Thn.exit ?_ | refine Blk.here ?_ | refine Blk.other (by decide) ?_ | refine ⟨.inl rfl, _, RetOk.ev tabOk Zc, ?_⟩ | fail)
      all_goals
        refine rPV_then (by conv => lhs; cbv) ?_
        first
          | exact tokFin0 hA s _ (tok_two (z := 0) rfl hL hF (by rw [z1]; omega)) (by simp [hA, real, hid, cN])
          | exact tokFin0 hA s _ (tok_one (z := 0) rfl hL hF (by rw [z1]; omega) (by rw [← hsi]; simp; assumption)) (by simp [hA, real, hid, cN])
          | exact tokFin0 hA s _ (tok_no (z := 0) rfl hL hF (by rw [z1]; omega) (by rw [← hsi]; simp; omega)) (by simp)
end Go.Proofs.YtklecijcpkolfaaDoor.Aw

/- Tokens of a text: a plain law. -/
set_option linter.unusedVariables false
set_option linter.unusedSimpArgs false
set_option linter.unusedSectionVars false
namespace Go.Proofs.YtklecijcpkolfaaDoor.Aw
open Go Go.RowKit
set_option maxRecDepth 10000
/-- A token: its kind, its text, where it begins. -/
abbrev Tk := Int × ByteArray × Int
def tkM (k : Int) (x : ByteArray) (n : Nat) : Tk := (k, x, (n : Int))
def tkK (x : Tk) : Int := x.1
def tkS (x : Tk) : ByteArray := x.2.1
def tkN (x : Tk) : Int := x.2.2
def encT (A : Ar) (x : Tk) : List IC := [.lit (.int .i64 (hid A (tkK x))), .lit (.string (hid A (tkS x))), .lit (.int .i64 (hid A (tkN x)))]
def scanF (s : ByteArray) : Nat → Nat → List Tk → List Tk × Nat × Int
  | 0, _, acc => (acc, 0, 0)
  | f + 1, a, acc => if s.size ≤ stop blkB s a then (acc, 0, 0) else if (tokM s (stop blkB s a)).1 = 0 then ([], stop blkB s a, 2)
    else scanF s f (tokM s (stop blkB s a)).2 (acc ++ [tkM (tokM s (stop blkB s a)).1 (cutS s (stop blkB s a) (tokM s (stop blkB s a)).2) (stop blkB s a)])
def scan (s : ByteArray) (a : Nat) (acc : List Tk) : List Tk × Nat × Int := scanF s (s.size - a + 1) a acc
def toksM (s : ByteArray) : List Tk × Nat × Int := if 2000 < s.size then ([], 0, 7) else scan s 0 []
theorem scanF_fuel (s : ByteArray) : ∀ (f g a : Nat) (acc : List Tk), a ≤ s.size → s.size - a < f → s.size - a < g → scanF s f a acc = scanF s g a acc
  | 0, _, _, _, _, h, _ => by omega
  | _, 0, _, _, _, _, h => by omega
  | f + 1, g + 1, a, acc, ha, h, k => by
    unfold scanF
    have i1 := stop_is blkB s a ha
    have := i1.le
    split
    · rfl
    · split
      · rfl
      · rename_i h1 h2
        have t := tok_top (s := s) (a := stop blkB s a) (by omega)
        have := t.2.2 h2
        exact scanF_fuel s f g _ _ t.1 (by omega) (by omega)
theorem scan_end {s : ByteArray} {a : Nat} (acc : List Tk) (h : stop blkB s a = s.size) : scan s a acc = (acc, 0, 0) := by
  unfold scan scanF; rw [if_pos (by omega)]
theorem scan_bad {s : ByteArray} {a b : Nat} (acc : List Tk) (h : stop blkB s a = b) (hb : b < s.size) (h0 : (tokM s b).1 = 0) : scan s a acc = ([], b, 2) := by
  subst h; unfold scan scanF; rw [if_neg (by omega), if_pos h0]
theorem scan_next {s : ByteArray} {a b : Nat} (acc : List Tk) (ha : a ≤ s.size) (h : stop blkB s a = b) (hb : b < s.size) (h0 : (tokM s b).1 ≠ 0) : scan s a acc = scan s (tokM s b).2 (acc ++ [tkM (tokM s b).1 (cutS s b (tokM s b).2) b]) := by
  have i1 := (stop_is blkB s a ha).le
  subst h
  have t := tok_top (s := s) (a := stop blkB s a) hb
  have := t.2.2 h0
  unfold scan
  rw [show scanF s (s.size - a + 1) a acc = scanF s (s.size - a) (tokM s (stop blkB s a)).2 (acc ++ [tkM (tokM s (stop blkB s a)).1 (cutS s (stop blkB s a) (tokM s (stop blkB s a)).2) (stop blkB s a)]) by
    conv => lhs; unfold scanF
    rw [if_neg (by omega), if_neg h0]]
  exact scanF_fuel s _ _ _ _ t.1 (by omega) (by omega)
theorem scan_blank {s : ByteArray} {a : Nat} (acc : List Tk) (h : a < s.size) (hb : blkB (sb s a) = true) : scan s (a + 1) acc = scan s a acc := by
  have e := stop_next h hb
  have i1 := stop_is blkB s (a + 1) h
  rcases Nat.lt_or_ge (stop blkB s (a + 1)) s.size with h1 | h1
  · by_cases h0 : (tokM s (stop blkB s (a + 1))).1 = 0
    · rw [scan_bad acc rfl h1 h0, scan_bad acc e h1 h0]
    · rw [scan_next acc h rfl h1 h0, scan_next acc (by omega) e h1 h0]
  · have := i1.top
    rw [scan_end acc (by omega), scan_end acc (by omega)]
/-- The tokens from a place on, and where there is none. -/
inductive Scan (s : ByteArray) : Nat → List Tk → Option Nat → Prop
  | done (a : Nat) (ha : a ≤ s.size) (h : stop blkB s a = s.size) : Scan s a [] none
  | bad (a b : Nat) (ha : a ≤ s.size) (h : stop blkB s a = b) (hb : b < s.size) (h0 : (tokM s b).1 = 0) : Scan s a [] (some b)
  | next (a b e : Nat) (k : Int) (l : List Tk) (r : Option Nat) (ha : a ≤ s.size) (h : stop blkB s a = b) (hb : b < s.size) (ht : tokM s b = (k, e)) (h0 : k ≠ 0) (hr : Scan s e l r) : Scan s a (tkM k (cutS s b e) b :: l) r
def resS (acc l : List Tk) : Option Nat → List Tk × Nat × Int
  | none => (acc ++ l, 0, 0)
  | some b => ([], b, 2)
theorem Scan.eq {s : ByteArray} {a : Nat} {l : List Tk} {r : Option Nat} (h : Scan s a l r) : ∀ acc, scan s a acc = resS acc l r := by
  induction h with
  | done a ha h => intro acc; rw [scan_end acc h]; simp [resS]
  | bad a b ha h hb h0 => intro acc; rw [scan_bad acc h hb h0]; rfl
  | next a b e k l r ha h hb ht h0 hr ih =>
    intro acc
    rw [scan_next acc ha h hb (by rw [ht]; exact h0), ht, ih]
    cases r <;> simp [resS]
theorem Scan.ex (s : ByteArray) : ∀ (n a : Nat), a ≤ s.size → s.size - a ≤ n → ∃ l r, Scan s a l r
  | n, a, ha, hn => by
    have i1 := stop_is blkB s a ha
    have := i1.le
    rcases Nat.lt_or_ge (stop blkB s a) s.size with h1 | h1
    · by_cases h0 : (tokM s (stop blkB s a)).1 = 0
      · exact ⟨_, _, .bad a _ ha rfl h1 h0⟩
      · have t := tok_top (s := s) (a := stop blkB s a) h1
        have := t.2.2 h0
        match n with
        | 0 => omega
        | n + 1 =>
          obtain ⟨l, r, h⟩ := Scan.ex s n (tokM s (stop blkB s a)).2 t.1 (by omega)
          exact ⟨_, _, .next a _ _ _ l r ha rfl h1 rfl h0 h⟩
    · have := i1.top
      exact ⟨_, _, .done a ha (by omega)⟩
theorem toks_scan {s : ByteArray} (h : s.size ≤ 2000) : ∃ l r, Scan s 0 l r ∧ toksM s = resS [] l r := by
  obtain ⟨l, r, k⟩ := Scan.ex s s.size 0 (Nat.zero_le _) (by omega)
  exact ⟨l, r, k, by unfold toksM; rw [if_neg (by omega)]; exact k.eq []⟩
theorem Scan.toks {s : ByteArray} {l : List Tk} {r : Option Nat} (k : Scan s 0 l r) (h : s.size ≤ 2000) : toksM s = resS [] l r := by
  unfold toksM; rw [if_neg (by omega)]; exact k.eq []
/-- A text that stands in another one, and behind it a blank or nothing. -/
structure Placed (s S : ByteArray) (o : Nat) : Prop where
  top : o + s.size ≤ S.size
  same : ∀ i : Nat, i < s.size → sb S ((o + i : Nat) : Int) = sb s i
  back : o + s.size < S.size → blkB (sb S ((o + s.size : Nat) : Int)) = true
theorem inn_blk {z : Int} (h : blkB z = true) : innB z = false := by
  unfold blkB at h; unfold innB
  rw [decide_eq_true_eq] at h; rw [decide_eq_false_iff_not]
  omega
theorem fig_blk {z : Int} (h : blkB z = true) : figB z = false := by
  unfold blkB at h; unfold figB
  rw [decide_eq_true_eq] at h; rw [decide_eq_false_iff_not]
  omega
theorem Placed.stop {s S : ByteArray} {o : Nat} (h : Placed s S o) {p : Int → Bool} (hp : ∀ z, blkB z = true → p z = false) {a : Nat} (ha : a ≤ s.size) : stop p S (o + a) = o + stop p s a := by
  have := h.top
  obtain ⟨h1, h2, h3, h4⟩ := stop_is p s a ha
  refine IsStop.eq ⟨by omega, by omega, fun i hi hj => ?_, fun hl => ?_⟩
  · have := h.same (i - o) (by omega)
    rw [show o + (i - o) = i by omega] at this
    rw [this]; exact h3 _ (by omega) (by omega)
  · rcases Nat.lt_or_ge (Aw.stop p s a) s.size with h5 | h5
    · rw [h.same _ h5]; exact h4 h5
    · have e : Aw.stop p s a = s.size := by omega
      rw [e] at hl ⊢
      exact hp _ (h.back hl)
theorem Placed.blk {s S : ByteArray} {o : Nat} (h : Placed s S o) {a : Nat} (ha : a ≤ s.size) (hl : Aw.stop blkB s a < s.size) : Aw.stop blkB S (o + a) = o + Aw.stop blkB s a := by
  have := h.top
  obtain ⟨h1, h2, h3, h4⟩ := stop_is blkB s a ha
  refine IsStop.eq ⟨by omega, by omega, fun i hi hj => ?_, fun _ => ?_⟩
  · have := h.same (i - o) (by omega)
    rw [show o + (i - o) = i by omega] at this
    rw [this]; exact h3 _ (by omega) (by omega)
  · rw [h.same _ hl]; exact h4 hl
theorem Placed.end {s S : ByteArray} {o : Nat} (h : Placed s S o) {a : Nat} (ha : a ≤ s.size) (hl : Aw.stop blkB s a = s.size) : Aw.stop blkB S (o + a) = Aw.stop blkB S (o + s.size) := by
  have := h.top
  obtain ⟨h1, h2, h3, h4⟩ := stop_is blkB s a ha
  obtain ⟨k1, k2, k3, k4⟩ := stop_is blkB S (o + s.size) h.top
  refine IsStop.eq ⟨by omega, k2, fun i hi hj => ?_, k4⟩
  rcases Nat.lt_or_ge i (o + s.size) with h5 | h5
  · have := h.same (i - o) (by omega)
    rw [show o + (i - o) = i by omega] at this
    rw [this]; exact h3 _ (by omega) (by omega)
  · exact k3 i h5 hj
theorem Placed.cut {s S : ByteArray} {o : Nat} (h : Placed s S o) {l n : Nat} (hl : l ≤ n) (hn : n ≤ s.size) : cutS S (o + l : Nat) (o + n : Nat) = cutS s l n := by
  have := h.top
  have e1 := cutS_size S (o + l : Nat) (o + n : Nat) (by omega) (by omega) (by omega)
  have e2 := cutS_size s l n (by omega) (by omega) (by omega)
  refine txt_ext (by omega) fun i hi => ?_
  rw [cutS_get S _ _ i (by omega) (by omega) (by omega) (by omega), cutS_get s _ _ i (by omega) (by omega) (by omega) (by omega)]
  have := h.same (l + i) (by omega)
  rw [show ((o + l : Nat) : Int) + i = ((o + (l + i) : Nat) : Int) by omega, this]
  rw [show ((l + i : Nat) : Int) = (l : Int) + i by omega]
theorem Placed.tok {s S : ByteArray} {o : Nat} (h : Placed s S o) {a : Nat} (ha : a < s.size) : tokM S (o + a) = ((tokM s a).1, o + (tokM s a).2) := by
  have ht := h.top
  have e := h.same a ha
  have s1 := h.stop (fun z => inn_blk) (Nat.le_of_lt ha)
  have s2 := h.stop (fun z => fig_blk) (Nat.le_of_lt ha)
  have i2 := stop_is figB s a (by omega)
  have hcut := h.cut i2.le i2.top
  have e3 : (((o + a : Nat) : Int) + 1) = ((o + (a + 1) : Nat) : Int) := by omega
  have e4 : ((a : Nat) : Int) + 1 = ((a + 1 : Nat) : Int) := by omega
  have h2 : (o + a + 1 < S.size ∧ sb S (((o + a : Nat) : Int) + 1) = 61 ∧ (sb S (o + a : Nat) = 60 ∨ sb S (o + a : Nat) = 58)) ↔ (a + 1 < s.size ∧ sb s ((a : Nat) + 1) = 61 ∧ (sb s a = 60 ∨ sb s a = 58)) := by
    rw [e, e3, e4]
    rcases Nat.lt_or_ge (a + 1) s.size with h5 | h5
    · rw [h.same _ h5]
      constructor
      · rintro ⟨_, h6⟩; exact ⟨h5, h6⟩
      · rintro ⟨_, h6⟩; exact ⟨by omega, h6⟩
    · have e5 : a + 1 = s.size := by omega
      constructor
      · rintro ⟨h6, h7, _⟩
        rw [e5] at h7
        have := h.back (by omega)
        unfold blkB at this
        rw [decide_eq_true_eq] at this
        omega
      · rintro ⟨h6, _⟩; omega
  unfold tokM
  rw [s1, s2, hcut, e]
  by_cases c1 : letB (sb s a) = true
  · rw [if_pos c1, if_pos c1]
  · rw [if_neg c1, if_neg c1]
    by_cases c2 : figB (sb s a) = true
    · rw [if_pos c2, if_pos c2]
      split <;> rfl
    · rw [if_neg c2, if_neg c2]
      rw [e] at h2
      by_cases c3 : a + 1 < s.size ∧ sb s ((a : Nat) + 1) = 61 ∧ (sb s a = 60 ∨ sb s a = 58)
      · rw [if_pos c3, if_pos (h2.2 c3)]; rfl
      · rw [if_neg c3, if_neg (fun k => c3 (h2.1 k))]
        split <;> rfl
theorem Placed.suffix (s : ByteArray) {a : Nat} (ha : a ≤ s.size) : Placed (cutS s a s.size) s a := by
  have e := cutS_size s a s.size (by omega) (by omega) (by omega)
  refine ⟨by omega, fun i hi => ?_, fun h => by omega⟩
  rw [cutS_get s a s.size i (by omega) (by omega) (by omega) (by omega)]
  rw [show ((a + i : Nat) : Int) = (a : Int) + i by omega]
theorem stop_cut (s : ByteArray) {a : Nat} (ha : a ≤ s.size) : a + Aw.stop blkB (cutS s a s.size) 0 = Aw.stop blkB s a := by
  have h := Placed.suffix s ha
  have e := cutS_size s a s.size (by omega) (by omega) (by omega)
  have i1 := stop_is blkB (cutS s a s.size) 0 (Nat.zero_le _)
  rcases Nat.lt_or_ge (Aw.stop blkB (cutS s a s.size) 0) (cutS s a s.size).size with h1 | h1
  · exact (h.blk (Nat.zero_le _) h1).symm
  · have e1 : Aw.stop blkB (cutS s a s.size) 0 = (cutS s a s.size).size := by have := i1.top; omega
    have := h.end (Nat.zero_le _) e1
    rw [Nat.add_zero] at this
    rw [this, e1, show a + (cutS s a s.size).size = s.size by omega]
    exact (IsStop.eq ⟨Nat.le_refl _, Nat.le_refl _, fun i h1 h2 => absurd h2 (by omega), fun h => absurd h (by omega)⟩).symm
theorem tok_cut (s : ByteArray) {b : Nat} (hb : b < s.size) : (tokM (cutS s b s.size) 0).1 = (tokM s b).1 ∧ tokX (cutS s b s.size) 0 = tokX s b := by
  have h := Placed.suffix s (Nat.le_of_lt hb)
  have e := cutS_size s b s.size (by omega) (by omega) (by omega)
  have t := h.tok (a := 0) (by omega)
  rw [Nat.add_zero] at t
  have t1 := tok_top (s := cutS s b s.size) (a := 0) (by omega)
  refine ⟨by rw [t], ?_⟩
  unfold tokX
  rw [t]
  split
  · rfl
  · exact (h.cut (Nat.zero_le _) t1.1).symm
/-- A place's token behind others. -/
theorem Placed.scan {s S : ByteArray} {o : Nat} (h : Placed s S o) {a : Nat} {l : List Tk} {r : Option Nat} (k : Scan s a l r) : ∀ acc, scan S (o + a) acc = match r with
    | none => Aw.scan S (o + s.size) (acc ++ l.map fun x => (tkK x, tkS x, tkN x + o))
    | some b => ([], o + b, 2) := by
  have ht := h.top
  induction k with
  | done a ha hs =>
    intro acc
    have e := h.end ha hs
    simp only [List.map_nil, List.append_nil]
    have i1 := stop_is blkB S (o + s.size) ht
    rcases Nat.lt_or_ge (Aw.stop blkB S (o + s.size)) S.size with h1 | h1
    · by_cases h0 : (tokM S (Aw.stop blkB S (o + s.size))).1 = 0
      · rw [scan_bad acc e h1 h0, scan_bad acc rfl h1 h0]
      · rw [scan_next acc (by omega) e h1 h0, scan_next acc ht rfl h1 h0]
    · have := i1.top
      rw [scan_end acc (by omega), scan_end acc (by omega)]
  | bad a b ha hs hb h0 =>
    intro acc
    subst hs
    have e := h.blk ha hb
    have t := h.tok hb
    rw [scan_bad acc e (by omega) (by rw [t]; exact h0)]
  | next a b e k l r ha hs hb hk h0 hr ih =>
    intro acc
    subst hs
    have e1 := h.blk ha hb
    have t := h.tok hb
    have tt := tok_top hb
    rw [hk] at t tt
    rw [scan_next acc (by omega) e1 (by omega) (by rw [t]; exact h0), t]
    have hc := h.cut tt.2.1 tt.1
    simp only at hc ⊢
    rw [hc, ih]
    cases r with
    | none => 
      simp only [List.map_cons, List.append_assoc, List.cons_append, List.nil_append, tkK, tkS, tkN, tkM]
      rw [show ((o + Aw.stop blkB s a : Nat) : Int) = (Aw.stop blkB s a : Int) + o by omega]
    | some b => rfl
end Go.Proofs.YtklecijcpkolfaaDoor.Aw

/- The abstract walk, part 45: a scope with labels to which nothing jumps. -/
set_option linter.unusedVariables false
set_option linter.unusedSimpArgs false
namespace Go.Proofs.YtklecijcpkolfaaDoor.Aw
open Go Go.RowKit
section
variable {P : Program} {b : Frame} {a : Act} {k : List Item} {cs : List Frame} {w : World}
theorem stepR_scope {c : Code} : step P (lone (b.atR a (.code (.scope c) :: k)) cs w) = .next (lone (b.atR a (.code c :: .inScope c :: k)) cs w) :=
  step_lone_go (by simp [stepG, stepG.exec, Frame.atR])
theorem stepR_inScope {c : Code} : step P (lone (b.atR a (.inScope c :: k)) cs w) = .next (lone (b.atR a k) cs w) :=
  step_lone_go (by simp [stepG, stepG.exec, Frame.atR])
end
/-- What is asked at a scope's end, where nothing jumps. -/
def NoGo (Q : Exit → Act → World → Prop) : Exit → Act → World → Prop
  | .goto _, _, _ => False
  | e, a, w => Q e a w
theorem wpIn_scope {F : Fence} {n : Nat} {P : Program} {Q : Exit → Act → World → Prop} {a : Act} {w : World} {c : Code} (h : c.wpIn F n P (NoGo Q) a w) : (Code.scope c).wpIn F n P Q a w := by
  intro b k cs hro hb hr
  have h0 : (lone (b.atR a (.code (.scope c) :: k)) cs w).fenced P F := fenced_calm hb hr rfl
  obtain ⟨e, a₁, w₁, hq, harr⟩ := h b (.inScope c :: k) cs hro hb hr
  cases e with
  | normal => exact ⟨.normal, a₁, w₁, hq, .head h0 stepR_scope (StepsIn.trans harr (.one (fenced_calm hb hr rfl) stepR_inScope))⟩
  | exit id' =>
    have hx : exitTo id' (.inScope c :: k) = exitTo id' k := by simp [exitTo]
    exact ⟨.exit id', a₁, w₁, hq, fun k' hk => .head h0 stepR_scope (harr.1 k' (by rw [hx]; exact hk)),
      fun hr' hk => let ⟨k₁, h1, h2⟩ := harr.2 hr' (by rw [hx]; exact hk); ⟨k₁, h1, .head h0 stepR_scope h2⟩⟩
  | goto l => exact hq.elim
  | ret => exact ⟨_, a₁, w₁, hq, .of_steps (.one h0 stepR_scope) harr⟩
  | panic ch => exact ⟨_, a₁, w₁, hq, .of_steps (.one h0 stepR_scope) harr⟩
  | outgrown => exact ⟨_, a₁, w₁, hq, .of_steps (.one h0 stepR_scope) harr⟩
def NoGoS (Q : Exit → St → Prop) : Exit → St → Prop
  | .goto _, _ => False
  | e, s => Q e s
theorem AWp.scope {r : Option Nat} {P : Program} {s : St} {Q : Exit → St → Prop} {c : Code} (h : AWp r P c s (NoGoS Q)) : AWp r P (.scope c) s Q := fun G g w a B QQ hr hB hd k => by
  refine wpIn_scope (h G g w a B _ hr hB hd fun e s' g' w' a' q hr' he hd' => ?_)
  cases e with
  | goto l => exact q.elim
  | _ => exact k _ s' g' w' a' q hr' he hd'
theorem AWp.label {r : Option Nat} {P : Program} {s : St} {Q : Exit → St → Prop} {l : Nat} (h : Q .normal s) : AWp r P (.label l) s Q := fun G g w a B QQ hr hB hd k => wpIn_label (k _ s g w a h hr (.refl _ _ _) hd)
theorem NoGoS.exit {Q : Exit → St → Prop} {i : Nat} {s : St} (h : Q (.exit i) s) : NoGoS Q (.exit i) s := h
theorem NoGoS.normal {Q : Exit → St → Prop} {s : St} (h : Q .normal s) : NoGoS Q .normal s := h
theorem NoGoS.ret {Q : Exit → St → Prop} {s : St} (h : Q .ret s) : NoGoS Q .ret s := h
end Go.Proofs.YtklecijcpkolfaaDoor.Aw

/- Contracts of package lex and of its reference, part 6: the tokens of a text. -/
set_option linter.unusedVariables false
set_option linter.unusedSimpArgs false
set_option linter.unusedSectionVars false
namespace Go.Proofs.YtklecijcpkolfaaDoor.Aw
open Go Go.RowKit
set_option maxRecDepth 10000
attribute [local irreducible] AWp AOL QS One AOLg QSg NX QX TRg TX AllO Fin3
theorem PureCalls.weakenT {P : Program} {f : FuncId} {pvs xs ys : List PV} (h : PureCalls P f pvs (.tup xs)) (k : PLes xs ys) : PureCalls P f pvs (.tup ys) :=
  ⟨h.1, fun ok w vals hsz hv => (h.2 ok w vals hsz hv).mono fun e w' ⟨v, he, hp, hb⟩ => ⟨v, he, by
    clear he
    generalize hX : PV.tup xs = X at hp
    cases hp with
    | c => cases hX
    | agg => cases hX
    | tup xs' vs e h2 =>
      obtain rfl := PV.tup.inj hX
      have hl : ∀ {a b : List PV}, PLes a b → a.length = b.length := fun h => by
        induction h with
        | nil => rfl
        | cons _ _ ih => simp [ih]
      have hg : ∀ {a b : List PV}, PLes a b → ∀ (j : Nat) (y : PV), b[j]? = some y → ∃ x, a[j]? = some x ∧ PLe x y := fun h => by
        induction h with
        | nil => intro j y hy; simp at hy
        | cons h1 _ ih =>
          intro j y hy
          cases j with
          | zero => simp at hy; subst hy; exact ⟨_, rfl, h1⟩
          | succ j => exact ih j y (by simpa using hy)
      refine .tup _ _ (by rw [e, hl k]) fun j y hy => ?_
      obtain ⟨x, hx, hxy⟩ := hg k j y hy
      exact (h2 j x hx).le hxy, hb⟩⟩
theorem rPV_own3 {st : List AObj} {i ver e sz : Nat} {m : Bool} {xs : List (List IC)} {y z : IC} (h : st[i]? = some (.row m ver e sz xs)) : rPV st (.tup [.own i ver, .ic y, .ic z]) = some (.tup [.c (.sl sz false xs), .c y, .c z]) := by
  simp [rPV, rPVs, rIC, toIC, h]
variable {A : Ar} (hA : A = real)
include hA
abbrev toksP (A : Ar) (r : List Tk × Nat × Int) (k : IntKind) : PV := .tup [slP A 3 (encT A) r.1, IP (hid A (cN r.2.1)), .c (.lit (.int k (hid A r.2.2)))]
set_option maxHeartbeats 4000000 in
theorem rToks_w (s : ByteArray) (hl : s.size ≤ 2000) (R : PV) (hbad : ∀ b : Nat, toksM s = ([], b, 2) → R = .tup [.c (.sl 0 true []), IP b, IP 2]) (hok : ∀ l : List Tk, toksM s = (l, 0, 0) → R = toksP A (l, 0, 0) .i64) : PureCalls Tryd.prog 12 [SP s] R := by
  have h0 : scan s 0 [] = toksM s := by unfold toksM; rw [if_neg (by omega)]
  refine PureCalls.of Tryd.func12 rfl (by kernel_rfl) rfl ?_
  try first | refine AOLg.of [5] ?_ | refine QSg.of [5] ?_
  repeat' (first | (refine AWp.pass ?_; first | refine AWp.seq ?_ | refine AWp.block ?_ | refine AWp.skip ?_ | refine AWp.regG [5] Zc ?_ | refine AWp.cond_t rfl ?_ | refine AWp.cond_f rfl ?_ | (refine AWp.cond rfl ?_ ?_ <;> intro hc <;> (try rw [hc]) <;> ((try simp only [zn] at hc) <;> (try simp (disch := omega) only [zz hA, zb, zy, reduceCtorEq, Bool.false_eq_true, Int.reduceLT, Int.reduceLE, Int.reduceNeg] at hc) <;> (try simp only [zw] at hc)) <;> (try (exfalso; omega))) | refine AWp.exit ?_ | refine AWp.ret ⟨.inr rfl, _, RetOk.ev tabOk Zc, ?_⟩) | (refine AOLg.pass ?_; refine AOLg.nx hA tabOk Zc ?_; first | refine NX.done ?_ | refine NX.gt ?_ | refine NX.gf ?_ | (refine NX.gs ?_ ?_ <;> intro hc <;> rw [hc] <;> ((try simp only [zn] at hc) <;> (try simp (disch := omega) only [zz hA, zb, zy, reduceCtorEq, Bool.false_eq_true, Int.reduceLT, Int.reduceLE, Int.reduceNeg] at hc) <;> (try simp only [zw] at hc)) <;> (try (exfalso; omega))) | refine NX.k 2 (NX.one Z2 ?_) | refine NX.k 7 (NX.one Z7 ?_) | refine NX.k 8 (NX.one Z8 ?_) | refine NX.k 10 (NX.one Z10 ?_) | refine NX.k 11 (NX.one Z11 ?_) | refine NX.k 13 (NX.one Z13 ?_) | refine NX.k 17 (NX.one Z17 ?_) | (refine NX.one (One.nilOwn tabOk 5 23 rfl rfl rfl) ?_) | refine NX.raw ?_) | refine Thn.exit ?_ | refine Blk.here ?_ | refine Blk.other (by decide) ?_ | refine ⟨.inl rfl, _, RetOk.ev tabOk Zc, ?_⟩ | fail)
  refine AWp.loopU (fun x : Nat × Nat × List Tk => [(5, .own 0 x.1), (6, .ic (.lit (.int .i64 (hid A (cN x.2.1)))))]) (fun x => [.row true x.1 32 3 (hid A (List.map (encT A) x.2.2))]) (fun x => s.size - x.2.1) (fun x => x.2.1 ≤ s.size ∧ x.2.2.length ≤ x.2.1 ∧ scan s x.2.1 x.2.2 = toksM s) (0, 0, []) (by conv => lhs; cbv) ⟨Nat.zero_le _, Nat.le_refl _, h0⟩ (.cons rfl (.int rfl (by simp [hA, real, hid, cN]) .nil)) (by simp [hA, real, hid]) ?_
  rintro ⟨n, a, acc⟩ ⟨ha, hn, hsc⟩
  simp only at ha hn hsc ⊢
  by_cases hlt : a < s.size
  · have hbr := sb_range s a
    by_cases hb : blkB (sb s a) = true
    · have hb' := hb
      unfold blkB at hb'
      rw [decide_eq_true_eq] at hb'
      try first | refine AOLg.of [] ?_ | refine QSg.of [] ?_
      repeat' (first | (refine AWp.pass ?_; first | refine AWp.seq ?_ | refine AWp.block ?_ | refine AWp.skip ?_ | refine AWp.regG [] Zc ?_ | refine AWp.cond_t rfl ?_ | refine AWp.cond_f rfl ?_ | (refine AWp.cond rfl ?_ ?_ <;> intro hc <;> (try rw [hc]) <;> ((try simp only [zn] at hc) <;> (try simp (disch := omega) only [zz hA, zb, zy, reduceCtorEq, Bool.false_eq_true, Int.reduceLT, Int.reduceLE, Int.reduceNeg] at hc) <;> (try simp only [zw] at hc)) <;> (try (exfalso; omega))) | refine AWp.exit ?_ | refine AWp.ret ⟨.inr rfl, _, RetOk.ev tabOk Zc, ?_⟩) | (refine AOLg.pass ?_; refine AOLg.nx hA tabOk Zc ?_; first | refine NX.done ?_ | refine NX.gt ?_ | refine NX.gf ?_ | (refine NX.gs ?_ ?_ <;> intro hc <;> rw [hc] <;> ((try simp only [zn] at hc) <;> (try simp (disch := omega) only [zz hA, zb, zy, reduceCtorEq, Bool.false_eq_true, Int.reduceLT, Int.reduceLE, Int.reduceNeg] at hc) <;> (try simp only [zw] at hc)) <;> (try (exfalso; omega))) | refine NX.k 2 (NX.one Z2 ?_) | refine NX.k 7 (NX.one Z7 ?_) | refine NX.k 8 (NX.one Z8 ?_) | refine NX.k 10 (NX.one Z10 ?_) | refine NX.k 11 (NX.one Z11 ?_) | refine NX.k 13 (NX.one Z13 ?_) | refine NX.k 17 (NX.one Z17 ?_) | refine NX.raw ?_) | refine Thn.exit ?_ | refine Blk.here ?_ | refine Blk.other (by decide) ?_ | refine ⟨.inl rfl, _, RetOk.ev tabOk Zc, ?_⟩ | fail)
      all_goals try (exfalso; omega)
      all_goals
        refine ⟨(n, a + 1, acc), ?_, ?_, rfl, ?_, ?_, Zk⟩ <;> (try omega)
        · exact ⟨hlt, by simp only; omega, by simp only; rw [scan_blank acc hlt hb]; exact hsc⟩
        · simp only; omega
        · rfl
        · (repeat' (first | exact subE.nil | refine subE.cons rfl ?_ | refine subE.int rfl ?_ ?_ | refine subE.bool rfl ?_ ?_ | refine subE.str rfl ?_ ?_ | refine subE.sl rfl ?_ ?_)) <;> exact Zd
    · have hb' := hb
      unfold blkB at hb'
      rw [decide_eq_true_eq] at hb'
      have hst : stop blkB s a = a := IsStop.eq ⟨Nat.le_refl _, ha, fun i h1 h2 => absurd h2 (by omega), fun _ => Bool.eq_false_iff.2 hb⟩
      have htk := rToken_c hA s a (by omega) hlt
      have htt := tok_top hlt
      have hnx := scan_next (s := s) acc ha hst hlt
      have hbd := scan_bad (s := s) acc hst hlt
      generalize hte : tokM s a = t at *
      obtain ⟨k, e⟩ := t
      simp only at htk htt hnx hbd
      by_cases hk : k = 0
      · have hR := hbad a (by rw [← hsc]; exact hbd hk)
        try first | refine AOLg.of [] ?_ | refine QSg.of [] ?_
        repeat' (first | (refine AWp.pass ?_; first | refine AWp.seq ?_ | refine AWp.block ?_ | refine AWp.skip ?_ | refine AWp.regG [] Zc ?_ | refine AWp.cond_t rfl ?_ | refine AWp.cond_f rfl ?_ | (refine AWp.cond rfl ?_ ?_ <;> intro hc <;> (try rw [hc]) <;> ((try simp only [zn] at hc) <;> (try simp (disch := omega) only [zz hA, zb, zy, reduceCtorEq, Bool.false_eq_true, Int.reduceLT, Int.reduceLE, Int.reduceNeg] at hc) <;> (try simp only [zw] at hc)) <;> (try (exfalso; omega))) | refine AWp.exit ?_ | refine AWp.ret ⟨.inr rfl, _, RetOk.ev tabOk Zc, ?_⟩) | (refine AOLg.pass ?_; refine AOLg.nx hA tabOk Zc ?_; first | refine NX.done ?_ | refine NX.gt ?_ | refine NX.gf ?_ | (refine NX.gs ?_ ?_ <;> intro hc <;> rw [hc] <;> ((try simp only [zn] at hc) <;> (try simp (disch := omega) only [zz hA, zb, zy, reduceCtorEq, Bool.false_eq_true, Int.reduceLT, Int.reduceLE, Int.reduceNeg] at hc) <;> (try simp only [zw] at hc)) <;> (try (exfalso; omega))) | (refine NX.kC ?_; first | (with_reducible refine NX.call (htk _ (by simp only [hid_eq hA, cN])) ?_) | ((first | refine NX.call (htk _ (by simp only [hid_eq hA, cN])) ?_)) | fail) | (refine NX.kO ?_; (first | refine NX.callO (htk _ (by simp only [hid_eq hA, cN])) (by simp [allEq]) rfl ?_)) | refine NX.k 2 (NX.one Z2 ?_) | refine NX.k 7 (NX.one Z7 ?_) | refine NX.k 8 (NX.one Z8 ?_) | refine NX.k 10 (NX.one Z10 ?_) | refine NX.k 11 (NX.one Z11 ?_) | refine NX.k 13 (NX.one Z13 ?_) | refine NX.k 17 (NX.one Z17 ?_) | refine NX.raw ?_) | refine Thn.exit ?_ | refine Blk.here ?_ | refine Blk.other (by decide) ?_ | refine ⟨.inl rfl, _, RetOk.ev tabOk Zc, ?_⟩ | fail)
        all_goals try (exfalso; omega)
        refine rPV_then (by conv => lhs; cbv) ?_
        rw [hR]
        simp [hA, real, hid, cN]
      · have hcs := cutS_size s a e (by omega) (by omega) (by omega)
        have hnx := hnx hk
        have htt2 := htt.2.2 hk
        try first | refine AOLg.of [] ?_ | refine QSg.of [] ?_
        repeat' (first | (refine AWp.pass ?_; first | refine AWp.seq ?_ | refine AWp.block ?_ | refine AWp.skip ?_ | refine AWp.regG [] Zc ?_ | refine AWp.cond_t rfl ?_ | refine AWp.cond_f rfl ?_ | (refine AWp.cond rfl ?_ ?_ <;> intro hc <;> (try rw [hc]) <;> ((try simp only [zn] at hc) <;> (try simp (disch := omega) only [zz hA, zb, zy, reduceCtorEq, Bool.false_eq_true, Int.reduceLT, Int.reduceLE, Int.reduceNeg] at hc) <;> (try simp only [zw] at hc)) <;> (try (exfalso; omega))) | refine AWp.exit ?_ | refine AWp.ret ⟨.inr rfl, _, RetOk.ev tabOk Zc, ?_⟩) | (refine AOLg.pass ?_; refine AOLg.nx hA tabOk Zc ?_; first | refine NX.done ?_ | refine NX.gt ?_ | refine NX.gf ?_ | (refine NX.gs ?_ ?_ <;> intro hc <;> rw [hc] <;> ((try simp only [zn] at hc) <;> (try simp (disch := omega) only [zz hA, zb, zy, reduceCtorEq, Bool.false_eq_true, Int.reduceLT, Int.reduceLE, Int.reduceNeg] at hc) <;> (try simp only [zw] at hc)) <;> (try (exfalso; omega))) | (refine NX.kC ?_; first | (with_reducible refine NX.call (htk _ (by simp only [hid_eq hA, cN])) ?_) | ((first | refine NX.call (htk _ (by simp only [hid_eq hA, cN])) ?_)) | fail) | (refine NX.kO ?_; (first | refine NX.callO (htk _ (by simp only [hid_eq hA, cN])) (by simp [allEq]) rfl ?_)) | refine NX.k 2 (NX.one Z2 ?_) | refine NX.k 7 (NX.one Z7 ?_) | refine NX.k 8 (NX.one Z8 ?_) | refine NX.k 10 (NX.one Z10 ?_) | refine NX.k 11 (NX.one Z11 ?_) | refine NX.k 13 (NX.one Z13 ?_) | refine NX.k 17 (NX.one Z17 ?_) | (refine NX.one (One.strcut_lhM hA tabOk rfl rfl rfl rfl rfl rfl Zd Zd Zd) ?_) | (refine NX.one (One.appendOwnM hA tabOk (f := encT A) (tkM k (cutS s a e) a) rfl rfl rfl rfl rfl rfl (by simp only [encT, tkK, tkS, tkN, tkM, hid_eq hA, cN]) Zd Zd) ?_) | refine NX.raw ?_) | refine Thn.exit ?_ | refine Blk.here ?_ | refine Blk.other (by decide) ?_ | refine ⟨.inl rfl, _, RetOk.ev tabOk Zc, ?_⟩ | fail)
        all_goals try (exfalso; omega)
        refine ⟨(n + 1, e, acc ++ [tkM k (cutS s a e) a]), ?_, ?_, rfl, ?_, ?_, Zk⟩ <;> (try omega)
        · refine ⟨by simp only; omega, ?_, by simp only; rw [← hnx]; exact hsc⟩
          simp only [List.length_append, List.length_cons, List.length_nil]; omega
        · simp only; omega
        · rfl
        · (repeat' (first | exact subE.nil | refine subE.cons rfl ?_ | refine subE.int rfl ?_ ?_ | refine subE.bool rfl ?_ ?_ | refine subE.str rfl ?_ ?_ | refine subE.sl rfl ?_ ?_)) <;> exact Zd
  · have hR := hok acc (by rw [← hsc]; exact scan_end acc (by have := stop_is blkB s a ha; have h1 := this.le; have h2 := this.top; omega))
    try first | refine AOLg.of [] ?_ | refine QSg.of [] ?_
    repeat' (first | (refine AWp.pass ?_; first | refine AWp.seq ?_ | refine AWp.block ?_ | refine AWp.skip ?_ | refine AWp.regG [] Zc ?_ | refine AWp.cond_t rfl ?_ | refine AWp.cond_f rfl ?_ | (refine AWp.cond rfl ?_ ?_ <;> intro hc <;> (try rw [hc]) <;> ((try simp only [zn] at hc) <;> (try simp (disch := omega) only [zz hA, zb, zy, reduceCtorEq, Bool.false_eq_true, Int.reduceLT, Int.reduceLE, Int.reduceNeg] at hc) <;> (try simp only [zw] at hc)) <;> (try (exfalso; omega))) | refine AWp.exit ?_ | refine AWp.ret ⟨.inr rfl, _, RetOk.ev tabOk Zc, ?_⟩) | (refine AOLg.pass ?_; refine AOLg.nx hA tabOk Zc ?_; first | refine NX.done ?_ | refine NX.gt ?_ | refine NX.gf ?_ | (refine NX.gs ?_ ?_ <;> intro hc <;> rw [hc] <;> ((try simp only [zn] at hc) <;> (try simp (disch := omega) only [zz hA, zb, zy, reduceCtorEq, Bool.false_eq_true, Int.reduceLT, Int.reduceLE, Int.reduceNeg] at hc) <;> (try simp only [zw] at hc)) <;> (try (exfalso; omega))) | refine NX.k 2 (NX.one Z2 ?_) | refine NX.k 7 (NX.one Z7 ?_) | refine NX.k 8 (NX.one Z8 ?_) | refine NX.k 10 (NX.one Z10 ?_) | refine NX.k 11 (NX.one Z11 ?_) | refine NX.k 13 (NX.one Z13 ?_) | refine NX.k 17 (NX.one Z17 ?_) | refine NX.raw ?_) | refine Thn.exit ?_ | refine Blk.here ?_ | refine Blk.other (by decide) ?_ | refine ⟨.inl rfl, _, RetOk.ev tabOk Zc, ?_⟩ | fail)
    refine (rPV_own3 rfl).trans ?_
    rw [hR]
    simp [hA, real, hid, cN]
set_option maxHeartbeats 4000000 in
theorem toks_w (s : ByteArray) (hl : s.size ≤ 2000) (R : PV) (hbad : ∀ b : Nat, toksM s = ([], b, 2) → R = .tup [.c (.sl 0 true []), IP b, IP 2]) (hok : ∀ l : List Tk, toksM s = (l, 0, 0) → R = toksP A (l, 0, 0) .i64) : PureCalls Tryd.prog 11 [SP s] R := by
  have h0 : scan s 0 [] = toksM s := by unfold toksM; rw [if_neg (by omega)]
  refine PureCalls.of Tryd.func11 rfl (by kernel_rfl) rfl ?_
  try first | refine AOLg.of [5] ?_ | refine QSg.of [5] ?_
  repeat' (first | (refine AWp.pass ?_; first | refine AWp.seq ?_ | refine AWp.block ?_ | refine AWp.skip ?_ | refine AWp.scope ?_ | refine AWp.label ?_ | refine AWp.regG [5] Zc ?_ | refine AWp.cond_t rfl ?_ | refine AWp.cond_f rfl ?_ | (refine AWp.cond rfl ?_ ?_ <;> intro hc <;> (try rw [hc]) <;> ((try simp only [zn] at hc) <;> (try simp (disch := omega) only [zz hA, zb, zy, reduceCtorEq, Bool.false_eq_true, Int.reduceLT, Int.reduceLE, Int.reduceNeg] at hc) <;> (try simp only [zw] at hc)) <;> (try (exfalso; omega))) | refine AWp.exit ?_ | refine AWp.ret ⟨.inr rfl, _, RetOk.ev tabOk Zc, ?_⟩) | (refine AOLg.pass ?_; refine AOLg.nx hA tabOk Zc ?_; first | refine NX.done ?_ | refine NX.gt ?_ | refine NX.gf ?_ | (refine NX.gs ?_ ?_ <;> intro hc <;> rw [hc] <;> ((try simp only [zn] at hc) <;> (try simp (disch := omega) only [zz hA, zb, zy, reduceCtorEq, Bool.false_eq_true, Int.reduceLT, Int.reduceLE, Int.reduceNeg] at hc) <;> (try simp only [zw] at hc)) <;> (try (exfalso; omega))) | (refine NX.one (One.nilOwn tabOk 5 23 rfl rfl rfl) ?_) | refine NX.raw ?_) | refine Thn.exit ?_ | refine Blk.here ?_ | refine Blk.other (by decide) ?_ | refine ⟨.inl rfl, _, RetOk.ev tabOk Zc, ?_⟩ | fail)
  refine AWp.loopU (fun x : Nat × Nat × List Tk => [(5, .own 0 x.1), (6, .ic (.lit (.int .i64 (hid A (cN x.2.1))))), (7, .ic (.lit (.bool false)))]) (fun x => [.row true x.1 32 3 (hid A (List.map (encT A) x.2.2))]) (fun x => s.size - x.2.1) (fun x => x.2.1 ≤ s.size ∧ x.2.2.length ≤ x.2.1 ∧ scan s x.2.1 x.2.2 = toksM s) (0, 0, []) (by conv => lhs; cbv) ⟨Nat.zero_le _, Nat.le_refl _, h0⟩ (.cons rfl (.int rfl (by simp [hA, real, hid, cN]) (.cons rfl .nil))) (by simp [hA, real, hid]) ?_
  rintro ⟨n, a, acc⟩ ⟨ha, hn, hsc⟩
  simp only at ha hn hsc ⊢
  have hcs := cutS_size s a s.size (by omega) (by omega) (by omega)
  have hfr := farBlk_c hA (cutS s a s.size) (by omega)
  have hst := stop_cut s ha
  have hsi := stop_is blkB s a ha
  have hsl := hsi.le
  have hsz := hsi.top
  generalize hb : stop blkB s a = b at *
  generalize stop blkB (cutS s a s.size) 0 = d at *
  have hfar : ∀ q, q = cutS s a s.size → ACalls Tryd.prog 20 [.ic (.lit (.string q)), .fn (.func 21) [.ic (.lit (.string kBlk))] []] [] (fun x st' => x = .ic (.lit (.int .i64 (hid A (cN d)))) ∧ st' = []) := by
    rintro q rfl; exact hfr
  have e1 : A .add .i64 (hid A (cN a)) (hid A (cN d)) = (b : Nat) := by exact Zd
  have e3 := e1
  simp only [hid_eq hA, cN] at e3
  by_cases hlt : b < s.size
  · have hcs2 := cutS_size s b s.size (by omega) (by omega) (by omega)
    have htk := token_c hA (cutS s b s.size) (by omega) (by omega)
    obtain ⟨g1, g2⟩ := tok_cut s hlt
    rw [g1, g2] at htk
    have htt := tok_top hlt
    have hnx := scan_next (s := s) acc ha hb hlt
    have hbd := scan_bad (s := s) acc hb hlt
    unfold tokX at htk
    generalize hte : tokM s b = t at *
    obtain ⟨k, e⟩ := t
    simp only at htk htt hnx hbd
    by_cases hk : k = 0
    · have hR := hbad b (by rw [← hsc]; exact hbd hk)
      rw [if_pos hk] at htk
      have htk' : ∀ q, q = cutS s b s.size → PureCalls Tryd.prog 22 [SP q] (.tup [IP (hid A k), SP (hid A { data := #[] })]) := by rintro q rfl; exact htk
      try first | refine AOLg.of [] ?_ | refine QSg.of [] ?_
      repeat' (first | (refine AWp.pass ?_; first | refine AWp.seq ?_ | refine AWp.block ?_ | refine AWp.skip ?_ | refine AWp.scope ?_ | refine AWp.label ?_ | refine AWp.regG [] Zc ?_ | refine AWp.cond_t rfl ?_ | refine AWp.cond_f rfl ?_ | (refine AWp.cond rfl ?_ ?_ <;> intro hc <;> (try rw [hc]) <;> ((try simp only [zn] at hc) <;> (try simp (disch := omega) only [zz hA, zb, zy, reduceCtorEq, Bool.false_eq_true, Int.reduceLT, Int.reduceLE, Int.reduceNeg] at hc) <;> (try simp only [zw] at hc)) <;> (try (exfalso; omega))) | refine AWp.exit ?_ | refine AWp.ret ⟨.inr rfl, _, RetOk.ev tabOk Zc, ?_⟩) | (refine AOLg.pass ?_; refine AOLg.nx hA tabOk Zc ?_; first | refine NX.done ?_ | refine NX.gt ?_ | refine NX.gf ?_ | (refine NX.gs ?_ ?_ <;> intro hc <;> rw [hc] <;> ((try simp only [zn] at hc) <;> (try simp (disch := omega) only [zz hA, zb, zy, reduceCtorEq, Bool.false_eq_true, Int.reduceLT, Int.reduceLE, Int.reduceNeg] at hc) <;> (try simp only [zw] at hc)) <;> (try (exfalso; omega))) | (refine NX.kC ?_; first | (with_reducible refine NX.call (htk' _ (by simp only [hid_eq hA, cN, e3])) ?_) | ((first | refine NX.call (htk' _ (by simp only [hid_eq hA, cN, e3])) ?_)) | fail) | (refine NX.kO ?_; (first | refine NX.callO (htk' _ (by simp only [hid_eq hA, cN, e3])) (by simp [allEq]) rfl ?_)) | (refine NX.one (One.fcall 1 (hfar _ (by simp only [hid_eq hA, cN])) rfl rfl rfl rfl rfl rfl rfl rfl) ?_) | (refine NX.one (One.strcut_lM hA tabOk rfl rfl rfl rfl rfl Zd Zd) ?_) | refine NX.raw ?_) | refine Thn.exit ?_ | refine Blk.here ?_ | refine Blk.other (by decide) ?_ | refine ⟨.inl rfl, _, RetOk.ev tabOk Zc, ?_⟩ | fail)
      all_goals first
        | (exfalso; omega)
        | (refine rPV_then (by conv => lhs; cbv) ?_
           rw [hR]
           simp [hA, real, hid, cN] at e1 ⊢
           exact e1)
    · have hcs3 := cutS_size s b e (by omega) (by omega) (by omega)
      have hnx := hnx hk
      have htt2 := htt.2.2 hk
      rw [if_neg hk] at htk
      have htk' : ∀ q, q = cutS s b s.size → PureCalls Tryd.prog 22 [SP q] (.tup [IP (hid A k), SP (hid A (cutS s b e))]) := by rintro q rfl; exact htk
      try first | refine AOLg.of [] ?_ | refine QSg.of [] ?_
      repeat' (first | (refine AWp.pass ?_; first | refine AWp.seq ?_ | refine AWp.block ?_ | refine AWp.skip ?_ | refine AWp.scope ?_ | refine AWp.label ?_ | refine AWp.regG [] Zc ?_ | refine AWp.cond_t rfl ?_ | refine AWp.cond_f rfl ?_ | (refine AWp.cond rfl ?_ ?_ <;> intro hc <;> (try rw [hc]) <;> ((try simp only [zn] at hc) <;> (try simp (disch := omega) only [zz hA, zb, zy, reduceCtorEq, Bool.false_eq_true, Int.reduceLT, Int.reduceLE, Int.reduceNeg] at hc) <;> (try simp only [zw] at hc)) <;> (try (exfalso; omega))) | refine AWp.exit ?_ | refine AWp.ret ⟨.inr rfl, _, RetOk.ev tabOk Zc, ?_⟩) | (refine AOLg.pass ?_; refine AOLg.nx hA tabOk Zc ?_; first | refine NX.done ?_ | refine NX.gt ?_ | refine NX.gf ?_ | (refine NX.gs ?_ ?_ <;> intro hc <;> rw [hc] <;> ((try simp only [zn] at hc) <;> (try simp (disch := omega) only [zz hA, zb, zy, reduceCtorEq, Bool.false_eq_true, Int.reduceLT, Int.reduceLE, Int.reduceNeg] at hc) <;> (try simp only [zw] at hc)) <;> (try (exfalso; omega))) | (refine NX.kC ?_; first | (with_reducible refine NX.call (htk' _ (by simp only [hid_eq hA, cN, e3])) ?_) | ((first | refine NX.call (htk' _ (by simp only [hid_eq hA, cN, e3])) ?_)) | fail) | (refine NX.kO ?_; (first | refine NX.callO (htk' _ (by simp only [hid_eq hA, cN, e3])) (by simp [allEq]) rfl ?_)) | (refine NX.one (One.fcall 1 (hfar _ (by simp only [hid_eq hA, cN])) rfl rfl rfl rfl rfl rfl rfl rfl) ?_) | (refine NX.one (One.strcut_lM hA tabOk rfl rfl rfl rfl rfl Zd Zd) ?_) | (refine NX.one (One.appendOwnM hA tabOk (f := encT A) (tkM k (cutS s b e) b) rfl rfl rfl rfl rfl rfl (by simp only [encT, tkK, tkS, tkN, tkM, hid_eq hA, cN, e3]) Zd Zd) ?_) | refine NX.raw ?_) | refine Thn.exit ?_ | refine Blk.here ?_ | refine Blk.other (by decide) ?_ | refine ⟨.inl rfl, _, RetOk.ev tabOk Zc, ?_⟩ | fail)
      · exfalso
        rw [txt_empty] at hc
        omega
      · refine ⟨(n + 1, e, acc ++ [tkM k (cutS s b e) b]), ?_, ?_, rfl, ?_, ?_, Zk⟩ <;> (try omega)
        · refine ⟨by simp only; omega, ?_, by simp only; rw [← hnx]; exact hsc⟩
          simp only [List.length_append, List.length_cons, List.length_nil]; omega
        · simp only; omega
        · rfl
        · (repeat' (first | exact subE.nil | refine subE.cons rfl ?_ | refine subE.int rfl ?_ ?_ | refine subE.bool rfl ?_ ?_ | refine subE.str rfl ?_ ?_ | refine subE.sl rfl ?_ ?_)) <;> exact Zd
  · have hR := hok acc (by rw [← hsc]; exact scan_end acc (by omega))
    try first | refine AOLg.of [] ?_ | refine QSg.of [] ?_
    repeat' (first | (refine AWp.pass ?_; first | refine AWp.seq ?_ | refine AWp.block ?_ | refine AWp.skip ?_ | refine AWp.scope ?_ | refine AWp.label ?_ | refine AWp.regG [] Zc ?_ | refine AWp.cond_t rfl ?_ | refine AWp.cond_f rfl ?_ | (refine AWp.cond rfl ?_ ?_ <;> intro hc <;> (try rw [hc]) <;> ((try simp only [zn] at hc) <;> (try simp (disch := omega) only [zz hA, zb, zy, reduceCtorEq, Bool.false_eq_true, Int.reduceLT, Int.reduceLE, Int.reduceNeg] at hc) <;> (try simp only [zw] at hc)) <;> (try (exfalso; omega))) | refine AWp.exit ?_ | refine AWp.ret ⟨.inr rfl, _, RetOk.ev tabOk Zc, ?_⟩) | (refine AOLg.pass ?_; refine AOLg.nx hA tabOk Zc ?_; first | refine NX.done ?_ | refine NX.gt ?_ | refine NX.gf ?_ | (refine NX.gs ?_ ?_ <;> intro hc <;> rw [hc] <;> ((try simp only [zn] at hc) <;> (try simp (disch := omega) only [zz hA, zb, zy, reduceCtorEq, Bool.false_eq_true, Int.reduceLT, Int.reduceLE, Int.reduceNeg] at hc) <;> (try simp only [zw] at hc)) <;> (try (exfalso; omega))) | (refine NX.one (One.fcall 1 (hfar _ (by simp only [hid_eq hA, cN])) rfl rfl rfl rfl rfl rfl rfl rfl) ?_) | (refine NX.one (One.strcut_lM hA tabOk rfl rfl rfl rfl rfl Zd Zd) ?_) | refine NX.raw ?_) | refine Thn.exit ?_ | refine Blk.here ?_ | refine Blk.other (by decide) ?_ | refine ⟨.inl rfl, _, RetOk.ev tabOk Zc, ?_⟩ | fail)
    all_goals try (exfalso; omega)
    refine (rPV_own3 rfl).trans ?_
    rw [hR]
    simp [hA, real, hid, cN]
end Go.Proofs.YtklecijcpkolfaaDoor.Aw

/- Two tokens: are they the same? -/
set_option linter.unusedVariables false
set_option linter.unusedSimpArgs false
set_option linter.unusedSectionVars false
namespace Go.Proofs.YtklecijcpkolfaaDoor.Aw
open Go Go.RowKit
set_option maxRecDepth 10000
attribute [local irreducible] AWp AOL QS One AOLg QSg NX QX TRg TX AllO Fin3
def sameB (k1 k2 : Int) (s1 s2 : ByteArray) (n1 n2 : Int) : Bool := decide (k1 = k2 ∧ s1 = s2 ∧ n1 = n2)
theorem run_tokEq (w : World) (k1 k2 n1 n2 : Int) (s1 s2 : ByteArray) : (Op.equalIn 10000 32 (.agg #[.int .i64 k1, .string s1, .int .i64 n1]) (.agg #[.int .i64 k2, .string s2, .int .i64 n2])).run Tryd.prog w = .ok (sameB k1 k2 s1 s2 n1 n2) w := by
  rw [run_equalIn_agg w 9999 _ _ _ (by kernel_rfl) (by kernel_rfl)]
  have hf : (Tryd.prog.fieldsOf 32).toList = [{ name := "Kind", type := 3, offset := 0, embedded := false, tag := "", pkgPath := "", byteOffset := 0 }, { name := "Text", type := 9, offset := 1, embedded := false, tag := "", pkgPath := "", byteOffset := 8 }, { name := "At", type := 3, offset := 2, embedded := false, tag := "", pkgPath := "", byteOffset := 24 }] := by kernel_rfl
  rw [hf]
  have h1 : (k1 == k2) = decide (k1 = k2) := rfl
  have h2 : (s1.toList == s2.toList) = decide (s1 = s2) := by
    rw [Bool.eq_iff_iff, beq_iff_eq, decide_eq_true_eq, txt_inj]
  have h3 : (n1 == n2) = decide (n1 = n2) := rfl
  have p1 : ∀ (xs : Array Value) (i : Nat) (v : Value), xs[i]? = some v → (part 3 xs i).run Tryd.prog w = .ok v w := fun xs i v h => by
    simp [part, Tryd.isAgg3, h]
  have p2 : ∀ (xs : Array Value) (i : Nat) (v : Value), xs[i]? = some v → (part 9 xs i).run Tryd.prog w = .ok v w := fun xs i v h => by
    simp [part, Tryd.isAgg9, h]
  have e1 : ∀ a b : Int, (Op.equalIn 9999 3 (.int .i64 a) (.int .i64 b)).run Tryd.prog w = .ok (a == b) w := fun a b => run_equalIn_int w 9998 3 .i64 _ a b Tryd.underlying3
  have e2 : ∀ a b : ByteArray, (Op.equalIn 9999 9 (.string a) (.string b)).run Tryd.prog w = .ok (a.toList == b.toList) w := fun a b => run_equalIn_string w 9998 9 a b Tryd.underlying9
  simp only [Op.eqFields, ne_eq, reduceCtorEq, not_false_eq_true, if_true, Sem.run_bind, (by decide : ¬ "Kind" = "_"), (by decide : ¬ "Text" = "_"), (by decide : ¬ "At" = "_")]
  rw [p1 #[.int .i64 k1, .string s1, .int .i64 n1] 0 (.int .i64 k1) rfl, Result.andThen_ok, p1 #[.int .i64 k2, .string s2, .int .i64 n2] 0 (.int .i64 k2) rfl, Result.andThen_ok, e1, Result.andThen_ok, h1]
  unfold sameB
  by_cases c1 : k1 = k2
  · simp only [c1, decide_true, Bool.not_true, Bool.false_eq_true, if_false, true_and, Sem.run_bind]
    rw [p2 #[.int .i64 k2, .string s1, .int .i64 n1] 1 (.string s1) rfl, Result.andThen_ok, p2 #[.int .i64 k2, .string s2, .int .i64 n2] 1 (.string s2) rfl, Result.andThen_ok, e2, Result.andThen_ok, h2]
    by_cases c2 : s1 = s2
    · simp only [c2, decide_true, Bool.not_true, Bool.false_eq_true, if_false, true_and, Sem.run_bind]
      rw [p1 #[.int .i64 k2, .string s2, .int .i64 n1] 2 (.int .i64 n1) rfl, Result.andThen_ok, p1 #[.int .i64 k2, .string s2, .int .i64 n2] 2 (.int .i64 n2) rfl, Result.andThen_ok, e1, Result.andThen_ok, h3]
      by_cases c3 : n1 = n2 <;> simp [c3]
    · simp [c2]
  · simp [c1]
theorem agg3 {G : Nat → Prop} {s : List AObj} {g : Ghost} {w : World} {v : Value} {a b c : Value} (h : AR G s g w (.agg [.ic (.lit a), .ic (.lit b), .ic (.lit c)]) v) : v = .agg #[a, b, c] := by
  obtain ⟨vs, rfl, h1, h2, _⟩ := h.agg_inv
  have x0 := (h2 0 _ rfl).lit_inv
  have x1 := (h2 1 _ rfl).lit_inv
  have x2 := (h2 2 _ rfl).lit_inv
  congr 1
  have h1 : vs.size = 3 := h1
  apply Array.ext
  · exact h1
  · intro i h3 h4
    match i, h4 with
    | 0, _ => simpa [Array.getD, h3] using x0
    | 1, _ => simpa [Array.getD, h3] using x1
    | 2, _ => simpa [Array.getD, h3] using x2
section
variable {r : Option Nat} {ops : Array Oper} {i : Nat} {s : St} {t' : TypeId} {x y : Operand} {k1 k2 n1 n2 : Int} {s1 s2 : ByteArray} {A : Ar}
theorem One.neTok (hA : A = real) (h : opAt ops i s = some (.binOp .neq 32 x y t')) (hx : s.ev x = .agg [.ic (.lit (.int .i64 k1)), .ic (.lit (.string s1)), .ic (.lit (.int .i64 n1))]) (hy : s.ev y = .agg [.ic (.lit (.int .i64 k2)), .ic (.lit (.string s2)), .ic (.lit (.int .i64 n2))]) :
    One r Tryd.prog ops i s (.ic (.lit (.bool (hid A (!sameB k1 k2 s1 s2 n1 n2))))) s.st := by
  rw [hid_eq hA]
  refine .does h rfl fun o hop => Does.congr (.pure fun G g w act hrel => ?_) fun ρ => by simp only [execOp, hop]; rfl
  have h1 := hrel.ev x
  have h2 := hrel.ev y
  rw [hx] at h1
  rw [hy] at h2
  refine ⟨_, ?_, .ic _ _ (.lit _ rfl)⟩
  rw [agg3 h1, agg3 h2]
  simp only [Sem.run_bind, run_eqGuard_agg (P := Tryd.prog) w .neq 32 x y _ _ (by kernel_rfl), run_neq_struct, run_tokEq, Result.andThen_ok, Sem.run_pure]
theorem One.eqTok (hA : A = real) (h : opAt ops i s = some (.binOp .eql 32 x y t')) (hx : s.ev x = .agg [.ic (.lit (.int .i64 k1)), .ic (.lit (.string s1)), .ic (.lit (.int .i64 n1))]) (hy : s.ev y = .agg [.ic (.lit (.int .i64 k2)), .ic (.lit (.string s2)), .ic (.lit (.int .i64 n2))]) :
    One r Tryd.prog ops i s (.ic (.lit (.bool (hid A (sameB k1 k2 s1 s2 n1 n2))))) s.st := by
  rw [hid_eq hA]
  refine .does h rfl fun o hop => Does.congr (.pure fun G g w act hrel => ?_) fun ρ => by simp only [execOp, hop]; rfl
  have h1 := hrel.ev x
  have h2 := hrel.ev y
  rw [hx] at h1
  rw [hy] at h2
  refine ⟨_, ?_, .ic _ _ (.lit _ rfl)⟩
  rw [agg3 h1, agg3 h2]
  simp only [Sem.run_bind, run_eqGuard_agg (P := Tryd.prog) w .eql 32 x y _ _ (by kernel_rfl), run_eql_struct, run_tokEq, Result.andThen_ok, Sem.run_pure]
end
end Go.Proofs.YtklecijcpkolfaaDoor.Aw

/- Contracts of package lex and of its reference, part 7: the same rows, texts of rows. -/
set_option linter.unusedVariables false
set_option linter.unusedSimpArgs false
set_option linter.unusedSectionVars false
namespace Go.Proofs.YtklecijcpkolfaaDoor.Aw
open Go Go.RowKit
set_option maxRecDepth 10000
attribute [local irreducible] AWp AOL QS One AOLg QSg NX QX TRg TX AllO Fin3
theorem sameB_eq {x y : Tk} (h : sameB (tkK x) (tkK y) (tkS x) (tkS y) (tkN x) (tkN y) = true) : x = y := by
  unfold sameB at h
  rw [decide_eq_true_eq] at h
  exact Prod.ext h.1 (Prod.ext h.2.1 h.2.2)
theorem sameB_ne {x y : Tk} (h : sameB (tkK x) (tkK y) (tkS x) (tkS y) (tkN x) (tkN y) = false) : x ≠ y := by
  rintro rfl
  unfold sameB at h
  rw [decide_eq_false_iff_not] at h
  exact h ⟨rfl, rfl, rfl⟩
theorem rows_eq {a b : List Tk} (hl : a.length = b.length) (h : ∀ j, j < a.length → a.getD j default = b.getD j default) : a = b := by
  apply List.ext_getElem hl
  intro j h1 h2
  have := h j h1
  simpa [List.getD_eq_getElem?_getD, h1, h2] using this
variable {A : Ar} (hA : A = real)
include hA
theorem toksBig (s : ByteArray) (h : 2000 < s.size) : PLes [.c (.sl 0 true []), IP 0, IP 7] [slP A 3 (encT A) (toksM s).1, IP (hid A (cN (toksM s).2.1)), .c (.lit (.int .i64 (hid A (toksM s).2.2)))] := by
  have : toksM s = ([], 0, 7) := by unfold toksM; rw [if_pos h]
  rw [this]
  exact .cons (.c (ILe.nilM hA _ _ _ _)) (.cons (by simp only [hid_eq hA]; exact .refl _) (.cons (by simp only [hid_eq hA]; exact .refl _) .nil))
theorem toksBad {s : ByteArray} {b : Nat} (h : toksM s = ([], b, 2)) : PLes [.c (.sl 0 true []), IP b, IP 2] [slP A 3 (encT A) (toksM s).1, IP (hid A (cN (toksM s).2.1)), .c (.lit (.int .i64 (hid A (toksM s).2.2)))] := by
  rw [h]
  exact .cons (.c (ILe.nilM hA _ _ _ _)) (.cons (by simp only [hid_eq hA, cN]; exact .refl _) (.cons (by simp only [hid_eq hA]; exact .refl _) .nil))
theorem rToks_c (s : ByteArray) (hs : s.size ≤ 140737488351232) : PureCalls Tryd.prog 12 [SP s] (toksP A (toksM s) .i64) := by
  by_cases hl : 2000 < s.size
  · refine PureCalls.weakenT ?_ (toksBig hA s hl)
    refine PureCalls.of Tryd.func12 rfl (by kernel_rfl) rfl ?_
    try first | refine AOLg.of [] ?_ | refine QSg.of [] ?_
    repeat' (first | (refine AWp.pass ?_; first | refine AWp.seq ?_ | refine AWp.block ?_ | refine AWp.skip ?_ | refine AWp.regG [] Zc ?_ | refine AWp.cond_t rfl ?_ | refine AWp.cond_f rfl ?_ | (refine AWp.cond rfl ?_ ?_ <;> intro hc <;> (try rw [hc]) <;> ((try simp only [zn] at hc) <;> (try simp (disch := omega) only [zz hA, zb, zy, reduceCtorEq, Bool.false_eq_true, Int.reduceLT, Int.reduceLE, Int.reduceNeg] at hc) <;> (try simp only [zw] at hc)) <;> (try (exfalso; omega))) | refine AWp.exit ?_ | refine AWp.ret ⟨.inr rfl, _, RetOk.ev tabOk Zc, ?_⟩) | (refine AOLg.pass ?_; refine AOLg.nx hA tabOk Zc ?_; first | refine NX.done ?_ | refine NX.gt ?_ | refine NX.gf ?_ | (refine NX.gs ?_ ?_ <;> intro hc <;> rw [hc] <;> ((try simp only [zn] at hc) <;> (try simp (disch := omega) only [zz hA, zb, zy, reduceCtorEq, Bool.false_eq_true, Int.reduceLT, Int.reduceLE, Int.reduceNeg] at hc) <;> (try simp only [zw] at hc)) <;> (try (exfalso; omega))) | refine NX.k 2 (NX.one Z2 ?_) | refine NX.k 7 (NX.one Z7 ?_) | refine NX.k 8 (NX.one Z8 ?_) | refine NX.k 10 (NX.one Z10 ?_) | refine NX.k 11 (NX.one Z11 ?_) | refine NX.k 13 (NX.one Z13 ?_) | refine NX.k 17 (NX.one Z17 ?_) | refine NX.raw ?_) | refine Thn.exit ?_ | refine Blk.here ?_ | refine Blk.other (by decide) ?_ | refine ⟨.inl rfl, _, RetOk.ev tabOk Zc, ?_⟩ | fail)
    all_goals exact Ze
  · obtain ⟨l, r, hk, ht⟩ := toks_scan (s := s) (by omega)
    cases r with
    | none => exact rToks_w hA s (by omega) _ (fun b h => by rw [ht] at h; simp [resS] at h) (fun l' h => by rw [h])
    | some b => exact (rToks_w hA s (by omega) _ (fun b' h => by rw [ht] at h; simp [resS] at h; subst h; rfl) (fun l' h => by rw [ht] at h; simp [resS] at h)).weakenT (toksBad hA ht)
theorem toks_c (s : ByteArray) (hs : s.size ≤ 140737488351232) : PureCalls Tryd.prog 11 [SP s] (toksP A (toksM s) .i64) := by
  by_cases hl : 2000 < s.size
  · refine PureCalls.weakenT ?_ (toksBig hA s hl)
    refine PureCalls.of Tryd.func11 rfl (by kernel_rfl) rfl ?_
    try first | refine AOLg.of [] ?_ | refine QSg.of [] ?_
    repeat' (first | (refine AWp.pass ?_; first | refine AWp.seq ?_ | refine AWp.block ?_ | refine AWp.skip ?_ | refine AWp.scope ?_ | refine AWp.label ?_ | refine AWp.regG [] Zc ?_ | refine AWp.cond_t rfl ?_ | refine AWp.cond_f rfl ?_ | (refine AWp.cond rfl ?_ ?_ <;> intro hc <;> (try rw [hc]) <;> ((try simp only [zn] at hc) <;> (try simp (disch := omega) only [zz hA, zb, zy, reduceCtorEq, Bool.false_eq_true, Int.reduceLT, Int.reduceLE, Int.reduceNeg] at hc) <;> (try simp only [zw] at hc)) <;> (try (exfalso; omega))) | refine AWp.exit ?_ | refine AWp.ret ⟨.inr rfl, _, RetOk.ev tabOk Zc, ?_⟩) | (refine AOLg.pass ?_; refine AOLg.nx hA tabOk Zc ?_; first | refine NX.done ?_ | refine NX.gt ?_ | refine NX.gf ?_ | (refine NX.gs ?_ ?_ <;> intro hc <;> rw [hc] <;> ((try simp only [zn] at hc) <;> (try simp (disch := omega) only [zz hA, zb, zy, reduceCtorEq, Bool.false_eq_true, Int.reduceLT, Int.reduceLE, Int.reduceNeg] at hc) <;> (try simp only [zw] at hc)) <;> (try (exfalso; omega))) | refine NX.raw ?_) | refine Thn.exit ?_ | refine Blk.here ?_ | refine Blk.other (by decide) ?_ | refine ⟨.inl rfl, _, RetOk.ev tabOk Zc, ?_⟩ | fail)
    all_goals exact Ze
  · obtain ⟨l, r, hk, ht⟩ := toks_scan (s := s) (by omega)
    cases r with
    | none => exact toks_w hA s (by omega) _ (fun b h => by rw [ht] at h; simp [resS] at h) (fun l' h => by rw [h])
    | some b => exact (toks_w hA s (by omega) _ (fun b' h => by rw [ht] at h; simp [resS] at h; subst h; rfl) (fun l' h => by rw [ht] at h; simp [resS] at h)).weakenT (toksBad hA ht)
theorem rSame_c (a b : List Tk) (ha : a.length ≤ 1000000) (hb : b.length ≤ 1000000) : PureCalls Tryd.prog 13 [slP A 3 (encT A) a, slP A 3 (encT A) b] (BP (hid A (decide (a = b)))) := by
  refine PureCalls.of Tryd.func13 rfl (by kernel_rfl) rfl ?_
  by_cases hl : a.length = b.length
  · try first | refine AOLg.of [] ?_ | refine QSg.of [] ?_
    repeat' (first | (refine AWp.pass ?_; first | refine AWp.seq ?_ | refine AWp.block ?_ | refine AWp.skip ?_ | refine AWp.regG [] Zc ?_ | refine AWp.cond_t rfl ?_ | refine AWp.cond_f rfl ?_ | (refine AWp.cond rfl ?_ ?_ <;> intro hc <;> (try rw [hc]) <;> ((try simp only [zn] at hc) <;> (try simp (disch := omega) only [zz hA, zb, zy, reduceCtorEq, Bool.false_eq_true, Int.reduceLT, Int.reduceLE, Int.reduceNeg] at hc) <;> (try simp only [zw] at hc)) <;> (try (exfalso; omega))) | refine AWp.exit ?_ | refine AWp.ret ⟨.inr rfl, _, RetOk.ev tabOk Zc, ?_⟩ | refine AWp.drawVG [] rfl (by decide +kernel) Zc ?_) | (refine AOLg.pass ?_; refine AOLg.nx hA tabOk Zc ?_; first | refine NX.done ?_ | refine NX.gt ?_ | refine NX.gf ?_ | (refine NX.gs ?_ ?_ <;> intro hc <;> rw [hc] <;> ((try simp only [zn] at hc) <;> (try simp (disch := omega) only [zz hA, zb, zy, reduceCtorEq, Bool.false_eq_true, Int.reduceLT, Int.reduceLE, Int.reduceNeg] at hc) <;> (try simp only [zw] at hc)) <;> (try (exfalso; omega))) | refine NX.k 1 (NX.one Z1 ?_) | refine NX.k 7 (NX.one Z7 ?_) | refine NX.k 9 (NX.one Z9 ?_) | refine NX.k 10 (NX.one Z10 ?_) | refine NX.k 14 (NX.one Z14 ?_) | refine NX.raw ?_) | (refine TRg.pass ?_; refine TRg.nx hA tabOk Zc ?_; first | refine TX.done ?_ | refine TX.gt ?_ | refine TX.gf ?_ | (refine TX.gs ?_ ?_ <;> intro hc <;> rw [hc] <;> ((try simp only [zn] at hc) <;> (try simp (disch := omega) only [zz hA, zb, zy, reduceCtorEq, Bool.false_eq_true, Int.reduceLT, Int.reduceLE, Int.reduceNeg] at hc) <;> (try simp only [zw] at hc)) <;> (try (exfalso; omega))) | refine TX.k 1 (TX.one Z1 ?_) | refine TX.k 7 (TX.one Z7 ?_) | refine TX.k 9 (TX.one Z9 ?_) | refine TX.k 10 (TX.one Z10 ?_) | refine TX.k 14 (TX.one Z14 ?_) | refine TX.raw ?_) | refine Fin3.of Zc (by repeat' (first | exact True.intro | exact rfl | refine And.intro ?_ ?_)) ?_ ?_ | (refine AllO.pass ?_; first | exact AllO.nil | (refine AllO.cons (One.ev hA tabOk ?_) ?_ <;> (first | refine AllO.pass ?_ | ((conv => lhs; cbv); done))) | (refine AllO.cons (One.skipB ?_) ?_ <;> (first | refine AllO.pass ?_ | ((conv => lhs; cbv); done))) | refine AllO.consX ZX rfl rfl ?_) | refine Thn.exit ?_ | refine Blk.here ?_ | refine Blk.other (by decide) ?_ | refine ⟨.inl rfl, _, RetOk.ev tabOk Zc, ?_⟩ | fail)
    all_goals try (exfalso; omega)
    refine AWp.loopU (fun k : Nat => [(5, .ic (.lit (.int .i64 (hid A (cN k)))))]) (fun _ => []) (fun k => a.length - k) (fun k => k ≤ a.length ∧ ∀ j, j < k → a.getD j default = b.getD j default) 0 (by conv => lhs; cbv) ⟨Nat.zero_le _, by simp⟩ (by (repeat' (first | exact subE.nil | refine subE.cons rfl ?_ | refine subE.int rfl ?_ ?_ | refine subE.bool rfl ?_ ?_ | refine subE.str rfl ?_ ?_ | refine subE.sl rfl ?_ ?_)) <;> simp [hA, real, hid, cN]) rfl ?_
    rintro k ⟨hk, hok⟩
    by_cases hlt : k < a.length
    · try first | refine AOLg.of [] ?_ | refine QSg.of [] ?_
      repeat' (first | (refine AWp.pass ?_; first | refine AWp.seq ?_ | refine AWp.block ?_ | refine AWp.skip ?_ | refine AWp.regG [] Zc ?_ | refine AWp.cond_t rfl ?_ | refine AWp.cond_f rfl ?_ | (refine AWp.cond rfl ?_ ?_ <;> intro hc <;> (try rw [hc]) <;> ((try simp only [zn] at hc) <;> (try simp (disch := omega) only [zz hA, zb, zy, reduceCtorEq, Bool.false_eq_true, Int.reduceLT, Int.reduceLE, Int.reduceNeg] at hc) <;> (try simp only [zw] at hc)) <;> (try (exfalso; omega))) | refine AWp.exit ?_ | refine AWp.ret ⟨.inr rfl, _, RetOk.ev tabOk Zc, ?_⟩ | refine AWp.drawVG [] rfl (by decide +kernel) Zc ?_) | (refine AOLg.pass ?_; refine AOLg.nx hA tabOk Zc ?_; first | refine NX.done ?_ | refine NX.gt ?_ | refine NX.gf ?_ | (refine NX.gs ?_ ?_ <;> intro hc <;> rw [hc] <;> ((try simp only [zn] at hc) <;> (try simp (disch := omega) only [zz hA, zb, zy, reduceCtorEq, Bool.false_eq_true, Int.reduceLT, Int.reduceLE, Int.reduceNeg] at hc) <;> (try simp only [zw] at hc)) <;> (try (exfalso; omega))) | refine NX.k 1 (NX.one Z1 ?_) | refine NX.k 7 (NX.one Z7 ?_) | refine NX.k 9 (NX.one Z9 ?_) | refine NX.k 10 (NX.one Z10 ?_) | refine NX.k 14 (NX.one Z14 ?_) | (refine NX.one (One.neTok hA rfl rfl rfl) ?_) | refine NX.raw ?_) | (refine TRg.pass ?_; refine TRg.nx hA tabOk Zc ?_; first | refine TX.done ?_ | refine TX.gt ?_ | refine TX.gf ?_ | (refine TX.gs ?_ ?_ <;> intro hc <;> rw [hc] <;> ((try simp only [zn] at hc) <;> (try simp (disch := omega) only [zz hA, zb, zy, reduceCtorEq, Bool.false_eq_true, Int.reduceLT, Int.reduceLE, Int.reduceNeg] at hc) <;> (try simp only [zw] at hc)) <;> (try (exfalso; omega))) | refine TX.k 1 (TX.one Z1 ?_) | refine TX.k 7 (TX.one Z7 ?_) | refine TX.k 9 (TX.one Z9 ?_) | refine TX.k 10 (TX.one Z10 ?_) | refine TX.k 14 (TX.one Z14 ?_) | (refine TX.one (One.neTok hA rfl rfl rfl) ?_) | refine TX.raw ?_) | refine Fin3.of Zc (by repeat' (first | exact True.intro | exact rfl | refine And.intro ?_ ?_)) ?_ ?_ | (refine AllO.pass ?_; first | exact AllO.nil | (refine AllO.cons (One.ev hA tabOk ?_) ?_ <;> (first | refine AllO.pass ?_ | ((conv => lhs; cbv); done))) | (refine AllO.cons (One.skipB ?_) ?_ <;> (first | refine AllO.pass ?_ | ((conv => lhs; cbv); done))) | refine AllO.consX ZX rfl rfl ?_ | ((refine AllO.consX (One.neTok hA rfl rfl rfl) rfl rfl ?_) <;> (first | refine AllO.pass ?_ | exact Zd))) | refine Thn.exit ?_ | refine Blk.here ?_ | refine Blk.other (by decide) ?_ | refine ⟨.inl rfl, _, RetOk.ev tabOk Zc, ?_⟩ | fail)
      all_goals try (exfalso; omega)
      · refine rPV_then (by conv => lhs; cbv) ?_
        rw [show decide (a = b) = false from decide_eq_false (fun h => sameB_ne hc (by rw [h])), hid_eq hA]
      · refine ⟨k + 1, ?_, ?_, rfl, rfl, ?_, Zk⟩ <;> (try omega)
        repeat' (first | exact subE.nil | refine subE.cons rfl ?_ | refine subE.int rfl ?_ ?_ | refine subE.bool rfl ?_ ?_ | refine subE.str rfl ?_ ?_ | refine subE.sl rfl ?_ ?_)
        · refine ⟨by omega, fun j hj => ?_⟩
          rcases Nat.lt_or_ge j k with h | h
          · exact hok j h
          · obtain rfl : j = k := by omega
            exact sameB_eq hc
        · exact Zd
    · try first | refine AOLg.of [] ?_ | refine QSg.of [] ?_
      repeat' (first | (refine AWp.pass ?_; first | refine AWp.seq ?_ | refine AWp.block ?_ | refine AWp.skip ?_ | refine AWp.regG [] Zc ?_ | refine AWp.cond_t rfl ?_ | refine AWp.cond_f rfl ?_ | (refine AWp.cond rfl ?_ ?_ <;> intro hc <;> (try rw [hc]) <;> ((try simp only [zn] at hc) <;> (try simp (disch := omega) only [zz hA, zb, zy, reduceCtorEq, Bool.false_eq_true, Int.reduceLT, Int.reduceLE, Int.reduceNeg] at hc) <;> (try simp only [zw] at hc)) <;> (try (exfalso; omega))) | refine AWp.exit ?_ | refine AWp.ret ⟨.inr rfl, _, RetOk.ev tabOk Zc, ?_⟩ | refine AWp.drawVG [] rfl (by decide +kernel) Zc ?_) | (refine AOLg.pass ?_; refine AOLg.nx hA tabOk Zc ?_; first | refine NX.done ?_ | refine NX.gt ?_ | refine NX.gf ?_ | (refine NX.gs ?_ ?_ <;> intro hc <;> rw [hc] <;> ((try simp only [zn] at hc) <;> (try simp (disch := omega) only [zz hA, zb, zy, reduceCtorEq, Bool.false_eq_true, Int.reduceLT, Int.reduceLE, Int.reduceNeg] at hc) <;> (try simp only [zw] at hc)) <;> (try (exfalso; omega))) | refine NX.k 1 (NX.one Z1 ?_) | refine NX.k 7 (NX.one Z7 ?_) | refine NX.k 9 (NX.one Z9 ?_) | refine NX.k 10 (NX.one Z10 ?_) | refine NX.k 14 (NX.one Z14 ?_) | (refine NX.one (One.neTok hA rfl rfl rfl) ?_) | refine NX.raw ?_) | (refine TRg.pass ?_; refine TRg.nx hA tabOk Zc ?_; first | refine TX.done ?_ | refine TX.gt ?_ | refine TX.gf ?_ | (refine TX.gs ?_ ?_ <;> intro hc <;> rw [hc] <;> ((try simp only [zn] at hc) <;> (try simp (disch := omega) only [zz hA, zb, zy, reduceCtorEq, Bool.false_eq_true, Int.reduceLT, Int.reduceLE, Int.reduceNeg] at hc) <;> (try simp only [zw] at hc)) <;> (try (exfalso; omega))) | refine TX.k 1 (TX.one Z1 ?_) | refine TX.k 7 (TX.one Z7 ?_) | refine TX.k 9 (TX.one Z9 ?_) | refine TX.k 10 (TX.one Z10 ?_) | refine TX.k 14 (TX.one Z14 ?_) | (refine TX.one (One.neTok hA rfl rfl rfl) ?_) | refine TX.raw ?_) | refine Fin3.of Zc (by repeat' (first | exact True.intro | exact rfl | refine And.intro ?_ ?_)) ?_ ?_ | (refine AllO.pass ?_; first | exact AllO.nil | (refine AllO.cons (One.ev hA tabOk ?_) ?_ <;> (first | refine AllO.pass ?_ | ((conv => lhs; cbv); done))) | (refine AllO.cons (One.skipB ?_) ?_ <;> (first | refine AllO.pass ?_ | ((conv => lhs; cbv); done))) | refine AllO.consX ZX rfl rfl ?_ | ((refine AllO.consX (One.neTok hA rfl rfl rfl) rfl rfl ?_) <;> (first | refine AllO.pass ?_ | exact Zd))) | refine Thn.exit ?_ | refine Blk.here ?_ | refine Blk.other (by decide) ?_ | refine ⟨.inl rfl, _, RetOk.ev tabOk Zc, ?_⟩ | fail)
      refine rPV_then (by conv => lhs; cbv) ?_
      rw [show decide (a = b) = true from decide_eq_true (rows_eq hl fun j hj => hok j (by omega)), hid_eq hA]
  · try first | refine AOLg.of [] ?_ | refine QSg.of [] ?_
    repeat' (first | (refine AWp.pass ?_; first | refine AWp.seq ?_ | refine AWp.block ?_ | refine AWp.skip ?_ | refine AWp.regG [] Zc ?_ | refine AWp.cond_t rfl ?_ | refine AWp.cond_f rfl ?_ | (refine AWp.cond rfl ?_ ?_ <;> intro hc <;> (try rw [hc]) <;> ((try simp only [zn] at hc) <;> (try simp (disch := omega) only [zz hA, zb, zy, reduceCtorEq, Bool.false_eq_true, Int.reduceLT, Int.reduceLE, Int.reduceNeg] at hc) <;> (try simp only [zw] at hc)) <;> (try (exfalso; omega))) | refine AWp.exit ?_ | refine AWp.ret ⟨.inr rfl, _, RetOk.ev tabOk Zc, ?_⟩ | refine AWp.drawVG [] rfl (by decide +kernel) Zc ?_) | (refine AOLg.pass ?_; refine AOLg.nx hA tabOk Zc ?_; first | refine NX.done ?_ | refine NX.gt ?_ | refine NX.gf ?_ | (refine NX.gs ?_ ?_ <;> intro hc <;> rw [hc] <;> ((try simp only [zn] at hc) <;> (try simp (disch := omega) only [zz hA, zb, zy, reduceCtorEq, Bool.false_eq_true, Int.reduceLT, Int.reduceLE, Int.reduceNeg] at hc) <;> (try simp only [zw] at hc)) <;> (try (exfalso; omega))) | refine NX.k 1 (NX.one Z1 ?_) | refine NX.k 7 (NX.one Z7 ?_) | refine NX.k 9 (NX.one Z9 ?_) | refine NX.k 10 (NX.one Z10 ?_) | refine NX.k 14 (NX.one Z14 ?_) | refine NX.raw ?_) | (refine TRg.pass ?_; refine TRg.nx hA tabOk Zc ?_; first | refine TX.done ?_ | refine TX.gt ?_ | refine TX.gf ?_ | (refine TX.gs ?_ ?_ <;> intro hc <;> rw [hc] <;> ((try simp only [zn] at hc) <;> (try simp (disch := omega) only [zz hA, zb, zy, reduceCtorEq, Bool.false_eq_true, Int.reduceLT, Int.reduceLE, Int.reduceNeg] at hc) <;> (try simp only [zw] at hc)) <;> (try (exfalso; omega))) | refine TX.k 1 (TX.one Z1 ?_) | refine TX.k 7 (TX.one Z7 ?_) | refine TX.k 9 (TX.one Z9 ?_) | refine TX.k 10 (TX.one Z10 ?_) | refine TX.k 14 (TX.one Z14 ?_) | refine TX.raw ?_) | refine Fin3.of Zc (by repeat' (first | exact True.intro | exact rfl | refine And.intro ?_ ?_)) ?_ ?_ | (refine AllO.pass ?_; first | exact AllO.nil | (refine AllO.cons (One.ev hA tabOk ?_) ?_ <;> (first | refine AllO.pass ?_ | ((conv => lhs; cbv); done))) | (refine AllO.cons (One.skipB ?_) ?_ <;> (first | refine AllO.pass ?_ | ((conv => lhs; cbv); done))) | refine AllO.consX ZX rfl rfl ?_) | refine Thn.exit ?_ | refine Blk.here ?_ | refine Blk.other (by decide) ?_ | refine ⟨.inl rfl, _, RetOk.ev tabOk Zc, ?_⟩ | fail)
    all_goals try (exfalso; omega)
    all_goals
      refine rPV_then (by conv => lhs; cbv) ?_
      rw [show decide (a = b) = false from decide_eq_false (fun h => hl (by rw [h])), hid_eq hA]
theorem equalT_c (a b : List Tk) (ha : a.length ≤ 1000000) (hb : b.length ≤ 1000000) : PureCalls Tryd.prog 26 [slP A 3 (encT A) a, slP A 3 (encT A) b] (BP (hid A (decide (a = b)))) := by
  refine PureCalls.of Tryd.func26 rfl (by kernel_rfl) rfl ?_
  by_cases hl : a.length = b.length
  · try first | refine AOLg.of [] ?_ | refine QSg.of [] ?_
    repeat' (first | (refine AWp.pass ?_; first | refine AWp.seq ?_ | refine AWp.block ?_ | refine AWp.skip ?_ | refine AWp.regG [] Zc ?_ | refine AWp.cond_t rfl ?_ | refine AWp.cond_f rfl ?_ | (refine AWp.cond rfl ?_ ?_ <;> intro hc <;> (try rw [hc]) <;> ((try simp only [zn] at hc) <;> (try simp (disch := omega) only [zz hA, zb, zy, reduceCtorEq, Bool.false_eq_true, Int.reduceLT, Int.reduceLE, Int.reduceNeg] at hc) <;> (try simp only [zw] at hc)) <;> (try (exfalso; omega))) | refine AWp.exit ?_ | refine AWp.ret ⟨.inr rfl, _, RetOk.ev tabOk Zc, ?_⟩ | refine AWp.drawVG [] rfl (by decide +kernel) Zc ?_) | (refine AOLg.pass ?_; refine AOLg.nx hA tabOk Zc ?_; first | refine NX.done ?_ | refine NX.gt ?_ | refine NX.gf ?_ | (refine NX.gs ?_ ?_ <;> intro hc <;> rw [hc] <;> ((try simp only [zn] at hc) <;> (try simp (disch := omega) only [zz hA, zb, zy, reduceCtorEq, Bool.false_eq_true, Int.reduceLT, Int.reduceLE, Int.reduceNeg] at hc) <;> (try simp only [zw] at hc)) <;> (try (exfalso; omega))) | refine NX.k 1 (NX.one Z1 ?_) | refine NX.k 7 (NX.one Z7 ?_) | refine NX.k 9 (NX.one Z9 ?_) | refine NX.k 10 (NX.one Z10 ?_) | refine NX.k 14 (NX.one Z14 ?_) | refine NX.raw ?_) | (refine TRg.pass ?_; refine TRg.nx hA tabOk Zc ?_; first | refine TX.done ?_ | refine TX.gt ?_ | refine TX.gf ?_ | (refine TX.gs ?_ ?_ <;> intro hc <;> rw [hc] <;> ((try simp only [zn] at hc) <;> (try simp (disch := omega) only [zz hA, zb, zy, reduceCtorEq, Bool.false_eq_true, Int.reduceLT, Int.reduceLE, Int.reduceNeg] at hc) <;> (try simp only [zw] at hc)) <;> (try (exfalso; omega))) | refine TX.k 1 (TX.one Z1 ?_) | refine TX.k 7 (TX.one Z7 ?_) | refine TX.k 9 (TX.one Z9 ?_) | refine TX.k 10 (TX.one Z10 ?_) | refine TX.k 14 (TX.one Z14 ?_) | refine TX.raw ?_) | refine Fin3.of Zc (by repeat' (first | exact True.intro | exact rfl | refine And.intro ?_ ?_)) ?_ ?_ | (refine AllO.pass ?_; first | exact AllO.nil | (refine AllO.cons (One.ev hA tabOk ?_) ?_ <;> (first | refine AllO.pass ?_ | ((conv => lhs; cbv); done))) | (refine AllO.cons (One.skipB ?_) ?_ <;> (first | refine AllO.pass ?_ | ((conv => lhs; cbv); done))) | refine AllO.consX ZX rfl rfl ?_) | refine Thn.exit ?_ | refine Blk.here ?_ | refine Blk.other (by decide) ?_ | refine ⟨.inl rfl, _, RetOk.ev tabOk Zc, ?_⟩ | fail)
    all_goals try (exfalso; omega)
    refine AWp.loopU (fun k : Nat => [(13, .ic (.lit (.int .i64 (hid A (cN k)))))]) (fun _ => []) (fun k => a.length - k) (fun k => k ≤ a.length ∧ ∀ j, j < k → a.getD j default = b.getD j default) 0 (by conv => lhs; cbv) ⟨Nat.zero_le _, by simp⟩ (by (repeat' (first | exact subE.nil | refine subE.cons rfl ?_ | refine subE.int rfl ?_ ?_ | refine subE.bool rfl ?_ ?_ | refine subE.str rfl ?_ ?_ | refine subE.sl rfl ?_ ?_)) <;> simp [hA, real, hid, cN]) rfl ?_
    rintro k ⟨hk, hok⟩
    by_cases hlt : k < a.length
    · try first | refine AOLg.of [] ?_ | refine QSg.of [] ?_
      repeat' (first | (refine AWp.pass ?_; first | refine AWp.seq ?_ | refine AWp.block ?_ | refine AWp.skip ?_ | refine AWp.regG [] Zc ?_ | refine AWp.cond_t rfl ?_ | refine AWp.cond_f rfl ?_ | (refine AWp.cond rfl ?_ ?_ <;> intro hc <;> (try rw [hc]) <;> ((try simp only [zn] at hc) <;> (try simp (disch := omega) only [zz hA, zb, zy, reduceCtorEq, Bool.false_eq_true, Int.reduceLT, Int.reduceLE, Int.reduceNeg] at hc) <;> (try simp only [zw] at hc)) <;> (try (exfalso; omega))) | refine AWp.exit ?_ | refine AWp.ret ⟨.inr rfl, _, RetOk.ev tabOk Zc, ?_⟩ | refine AWp.drawVG [] rfl (by decide +kernel) Zc ?_) | (refine AOLg.pass ?_; refine AOLg.nx hA tabOk Zc ?_; first | refine NX.done ?_ | refine NX.gt ?_ | refine NX.gf ?_ | (refine NX.gs ?_ ?_ <;> intro hc <;> rw [hc] <;> ((try simp only [zn] at hc) <;> (try simp (disch := omega) only [zz hA, zb, zy, reduceCtorEq, Bool.false_eq_true, Int.reduceLT, Int.reduceLE, Int.reduceNeg] at hc) <;> (try simp only [zw] at hc)) <;> (try (exfalso; omega))) | refine NX.k 1 (NX.one Z1 ?_) | refine NX.k 7 (NX.one Z7 ?_) | refine NX.k 9 (NX.one Z9 ?_) | refine NX.k 10 (NX.one Z10 ?_) | refine NX.k 14 (NX.one Z14 ?_) | (refine NX.one (One.neTok hA rfl rfl rfl) ?_) | refine NX.raw ?_) | (refine TRg.pass ?_; refine TRg.nx hA tabOk Zc ?_; first | refine TX.done ?_ | refine TX.gt ?_ | refine TX.gf ?_ | (refine TX.gs ?_ ?_ <;> intro hc <;> rw [hc] <;> ((try simp only [zn] at hc) <;> (try simp (disch := omega) only [zz hA, zb, zy, reduceCtorEq, Bool.false_eq_true, Int.reduceLT, Int.reduceLE, Int.reduceNeg] at hc) <;> (try simp only [zw] at hc)) <;> (try (exfalso; omega))) | refine TX.k 1 (TX.one Z1 ?_) | refine TX.k 7 (TX.one Z7 ?_) | refine TX.k 9 (TX.one Z9 ?_) | refine TX.k 10 (TX.one Z10 ?_) | refine TX.k 14 (TX.one Z14 ?_) | (refine TX.one (One.neTok hA rfl rfl rfl) ?_) | refine TX.raw ?_) | refine Fin3.of Zc (by repeat' (first | exact True.intro | exact rfl | refine And.intro ?_ ?_)) ?_ ?_ | (refine AllO.pass ?_; first | exact AllO.nil | (refine AllO.cons (One.ev hA tabOk ?_) ?_ <;> (first | refine AllO.pass ?_ | ((conv => lhs; cbv); done))) | (refine AllO.cons (One.skipB ?_) ?_ <;> (first | refine AllO.pass ?_ | ((conv => lhs; cbv); done))) | refine AllO.consX ZX rfl rfl ?_ | ((refine AllO.consX (One.neTok hA rfl rfl rfl) rfl rfl ?_) <;> (first | refine AllO.pass ?_ | exact Zd))) | refine Thn.exit ?_ | refine Blk.here ?_ | refine Blk.other (by decide) ?_ | refine ⟨.inl rfl, _, RetOk.ev tabOk Zc, ?_⟩ | fail)
      all_goals try (exfalso; omega)
      · refine rPV_then (by conv => lhs; cbv) ?_
        rw [show decide (a = b) = false from decide_eq_false (fun h => sameB_ne hc (by rw [h])), hid_eq hA]
      · refine ⟨k + 1, ?_, ?_, rfl, rfl, ?_, Zk⟩ <;> (try omega)
        repeat' (first | exact subE.nil | refine subE.cons rfl ?_ | refine subE.int rfl ?_ ?_ | refine subE.bool rfl ?_ ?_ | refine subE.str rfl ?_ ?_ | refine subE.sl rfl ?_ ?_)
        · refine ⟨by omega, fun j hj => ?_⟩
          rcases Nat.lt_or_ge j k with h | h
          · exact hok j h
          · obtain rfl : j = k := by omega
            exact sameB_eq hc
        · exact Zd
    · try first | refine AOLg.of [] ?_ | refine QSg.of [] ?_
      repeat' (first | (refine AWp.pass ?_; first | refine AWp.seq ?_ | refine AWp.block ?_ | refine AWp.skip ?_ | refine AWp.regG [] Zc ?_ | refine AWp.cond_t rfl ?_ | refine AWp.cond_f rfl ?_ | (refine AWp.cond rfl ?_ ?_ <;> intro hc <;> (try rw [hc]) <;> ((try simp only [zn] at hc) <;> (try simp (disch := omega) only [zz hA, zb, zy, reduceCtorEq, Bool.false_eq_true, Int.reduceLT, Int.reduceLE, Int.reduceNeg] at hc) <;> (try simp only [zw] at hc)) <;> (try (exfalso; omega))) | refine AWp.exit ?_ | refine AWp.ret ⟨.inr rfl, _, RetOk.ev tabOk Zc, ?_⟩ | refine AWp.drawVG [] rfl (by decide +kernel) Zc ?_) | (refine AOLg.pass ?_; refine AOLg.nx hA tabOk Zc ?_; first | refine NX.done ?_ | refine NX.gt ?_ | refine NX.gf ?_ | (refine NX.gs ?_ ?_ <;> intro hc <;> rw [hc] <;> ((try simp only [zn] at hc) <;> (try simp (disch := omega) only [zz hA, zb, zy, reduceCtorEq, Bool.false_eq_true, Int.reduceLT, Int.reduceLE, Int.reduceNeg] at hc) <;> (try simp only [zw] at hc)) <;> (try (exfalso; omega))) | refine NX.k 1 (NX.one Z1 ?_) | refine NX.k 7 (NX.one Z7 ?_) | refine NX.k 9 (NX.one Z9 ?_) | refine NX.k 10 (NX.one Z10 ?_) | refine NX.k 14 (NX.one Z14 ?_) | (refine NX.one (One.neTok hA rfl rfl rfl) ?_) | refine NX.raw ?_) | (refine TRg.pass ?_; refine TRg.nx hA tabOk Zc ?_; first | refine TX.done ?_ | refine TX.gt ?_ | refine TX.gf ?_ | (refine TX.gs ?_ ?_ <;> intro hc <;> rw [hc] <;> ((try simp only [zn] at hc) <;> (try simp (disch := omega) only [zz hA, zb, zy, reduceCtorEq, Bool.false_eq_true, Int.reduceLT, Int.reduceLE, Int.reduceNeg] at hc) <;> (try simp only [zw] at hc)) <;> (try (exfalso; omega))) | refine TX.k 1 (TX.one Z1 ?_) | refine TX.k 7 (TX.one Z7 ?_) | refine TX.k 9 (TX.one Z9 ?_) | refine TX.k 10 (TX.one Z10 ?_) | refine TX.k 14 (TX.one Z14 ?_) | (refine TX.one (One.neTok hA rfl rfl rfl) ?_) | refine TX.raw ?_) | refine Fin3.of Zc (by repeat' (first | exact True.intro | exact rfl | refine And.intro ?_ ?_)) ?_ ?_ | (refine AllO.pass ?_; first | exact AllO.nil | (refine AllO.cons (One.ev hA tabOk ?_) ?_ <;> (first | refine AllO.pass ?_ | ((conv => lhs; cbv); done))) | (refine AllO.cons (One.skipB ?_) ?_ <;> (first | refine AllO.pass ?_ | ((conv => lhs; cbv); done))) | refine AllO.consX ZX rfl rfl ?_ | ((refine AllO.consX (One.neTok hA rfl rfl rfl) rfl rfl ?_) <;> (first | refine AllO.pass ?_ | exact Zd))) | refine Thn.exit ?_ | refine Blk.here ?_ | refine Blk.other (by decide) ?_ | refine ⟨.inl rfl, _, RetOk.ev tabOk Zc, ?_⟩ | fail)
      refine rPV_then (by conv => lhs; cbv) ?_
      rw [show decide (a = b) = true from decide_eq_true (rows_eq hl fun j hj => hok j (by omega)), hid_eq hA]
  · try first | refine AOLg.of [] ?_ | refine QSg.of [] ?_
    repeat' (first | (refine AWp.pass ?_; first | refine AWp.seq ?_ | refine AWp.block ?_ | refine AWp.skip ?_ | refine AWp.regG [] Zc ?_ | refine AWp.cond_t rfl ?_ | refine AWp.cond_f rfl ?_ | (refine AWp.cond rfl ?_ ?_ <;> intro hc <;> (try rw [hc]) <;> ((try simp only [zn] at hc) <;> (try simp (disch := omega) only [zz hA, zb, zy, reduceCtorEq, Bool.false_eq_true, Int.reduceLT, Int.reduceLE, Int.reduceNeg] at hc) <;> (try simp only [zw] at hc)) <;> (try (exfalso; omega))) | refine AWp.exit ?_ | refine AWp.ret ⟨.inr rfl, _, RetOk.ev tabOk Zc, ?_⟩ | refine AWp.drawVG [] rfl (by decide +kernel) Zc ?_) | (refine AOLg.pass ?_; refine AOLg.nx hA tabOk Zc ?_; first | refine NX.done ?_ | refine NX.gt ?_ | refine NX.gf ?_ | (refine NX.gs ?_ ?_ <;> intro hc <;> rw [hc] <;> ((try simp only [zn] at hc) <;> (try simp (disch := omega) only [zz hA, zb, zy, reduceCtorEq, Bool.false_eq_true, Int.reduceLT, Int.reduceLE, Int.reduceNeg] at hc) <;> (try simp only [zw] at hc)) <;> (try (exfalso; omega))) | refine NX.k 1 (NX.one Z1 ?_) | refine NX.k 7 (NX.one Z7 ?_) | refine NX.k 9 (NX.one Z9 ?_) | refine NX.k 10 (NX.one Z10 ?_) | refine NX.k 14 (NX.one Z14 ?_) | refine NX.raw ?_) | (refine TRg.pass ?_; refine TRg.nx hA tabOk Zc ?_; first | refine TX.done ?_ | refine TX.gt ?_ | refine TX.gf ?_ | (refine TX.gs ?_ ?_ <;> intro hc <;> rw [hc] <;> ((try simp only [zn] at hc) <;> (try simp (disch := omega) only [zz hA, zb, zy, reduceCtorEq, Bool.false_eq_true, Int.reduceLT, Int.reduceLE, Int.reduceNeg] at hc) <;> (try simp only [zw] at hc)) <;> (try (exfalso; omega))) | refine TX.k 1 (TX.one Z1 ?_) | refine TX.k 7 (TX.one Z7 ?_) | refine TX.k 9 (TX.one Z9 ?_) | refine TX.k 10 (TX.one Z10 ?_) | refine TX.k 14 (TX.one Z14 ?_) | refine TX.raw ?_) | refine Fin3.of Zc (by repeat' (first | exact True.intro | exact rfl | refine And.intro ?_ ?_)) ?_ ?_ | (refine AllO.pass ?_; first | exact AllO.nil | (refine AllO.cons (One.ev hA tabOk ?_) ?_ <;> (first | refine AllO.pass ?_ | ((conv => lhs; cbv); done))) | (refine AllO.cons (One.skipB ?_) ?_ <;> (first | refine AllO.pass ?_ | ((conv => lhs; cbv); done))) | refine AllO.consX ZX rfl rfl ?_) | refine Thn.exit ?_ | refine Blk.here ?_ | refine Blk.other (by decide) ?_ | refine ⟨.inl rfl, _, RetOk.ev tabOk Zc, ?_⟩ | fail)
    all_goals try (exfalso; omega)
    all_goals
      refine rPV_then (by conv => lhs; cbv) ?_
      rw [show decide (a = b) = false from decide_eq_false (fun h => hl (by rw [h])), hid_eq hA]
theorem same_c (a b : List Tk) (ha : a.length ≤ 1000000) (hb : b.length ≤ 1000000) : PureCalls Tryd.prog 19 [slP A 3 (encT A) a, slP A 3 (encT A) b] (BP (hid A (decide (a = b)))) := by
  refine PureCalls.of Tryd.func19 rfl (by kernel_rfl) rfl ?_
  try first | refine AOLg.of [] ?_ | refine QSg.of [] ?_
  repeat' (first | (refine AWp.pass ?_; first | refine AWp.seq ?_ | refine AWp.block ?_ | refine AWp.skip ?_ | refine AWp.regG [] Zc ?_ | refine AWp.cond_t rfl ?_ | refine AWp.cond_f rfl ?_ | (refine AWp.cond rfl ?_ ?_ <;> intro hc <;> (try rw [hc]) <;> ((try simp only [zn] at hc) <;> (try simp (disch := omega) only [zz hA, zb, zy, reduceCtorEq, Bool.false_eq_true, Int.reduceLT, Int.reduceLE, Int.reduceNeg] at hc) <;> (try simp only [zw] at hc)) <;> (try (exfalso; omega))) | refine AWp.exit ?_ | refine AWp.ret ⟨.inr rfl, _, RetOk.ev tabOk Zc, ?_⟩) | (refine AOLg.pass ?_; refine AOLg.nx hA tabOk Zc ?_; first | refine NX.done ?_ | refine NX.gt ?_ | refine NX.gf ?_ | (refine NX.gs ?_ ?_ <;> intro hc <;> rw [hc] <;> ((try simp only [zn] at hc) <;> (try simp (disch := omega) only [zz hA, zb, zy, reduceCtorEq, Bool.false_eq_true, Int.reduceLT, Int.reduceLE, Int.reduceNeg] at hc) <;> (try simp only [zw] at hc)) <;> (try (exfalso; omega))) | (refine NX.kC ?_; first | (with_reducible refine NX.call (equalT_c hA a b ha hb) ?_) | ((first | refine NX.call (equalT_c hA a b ha hb) ?_)) | fail) | (refine NX.kO ?_; (first | refine NX.callO (equalT_c hA a b ha hb) (by simp [allEq]) rfl ?_)) | refine NX.raw ?_) | refine Thn.exit ?_ | refine Blk.here ?_ | refine Blk.other (by decide) ?_ | refine ⟨.inl rfl, _, RetOk.ev tabOk Zc, ?_⟩ | fail)
  refine rPV_then (by conv => lhs; cbv) ?_
  rfl
end Go.Proofs.YtklecijcpkolfaaDoor.Aw

/- Contracts of package lex and of its reference, part 8: texts of tokens. -/
set_option linter.unusedVariables false
set_option linter.unusedSimpArgs false
set_option linter.unusedSectionVars false
namespace Go.Proofs.YtklecijcpkolfaaDoor.Aw
open Go Go.RowKit
set_option maxRecDepth 10000
attribute [local irreducible] AWp AOL QS One AOLg QSg NX QX TRg TX AllO Fin3
def spS : ByteArray := { data := #[32] }
/-- The text of the first tokens. -/
def txtN (l : List Tk) : Nat → ByteArray
  | 0 => { data := #[] }
  | k + 1 => (if k = 0 then txtN l k else txtN l k ++ spS) ++ tkS (l.getD k default)
def txtM (l : List Tk) : ByteArray := txtN l l.length
/-- How many bytes the first tokens' texts have, and one for each. -/
def cntT (l : List Tk) : Nat → Nat
  | 0 => 0
  | k + 1 => cntT l k + 1 + (tkS (l.getD k default)).size
theorem cntT_mono (l : List Tk) {j n : Nat} (h : j ≤ n) : cntT l j ≤ cntT l n := by
  induction n with
  | zero => obtain rfl : j = 0 := by omega
            exact Nat.le_refl _
  | succ n ih =>
    rcases Nat.lt_or_ge j (n + 1) with h1 | h1
    · have := ih (by omega)
      rw [show cntT l (n + 1) = cntT l n + 1 + (tkS (l.getD n default)).size from rfl]; omega
    · obtain rfl : j = n + 1 := by omega
      exact Nat.le_refl _
theorem cntT_len (l : List Tk) : ∀ n, n ≤ cntT l n
  | 0 => Nat.le_refl _
  | n + 1 => by have := cntT_len l n; unfold cntT; omega
theorem txtN_size (l : List Tk) : ∀ n, (txtN l n).size ≤ cntT l n
  | 0 => Nat.le_refl _
  | n + 1 => by
    have := txtN_size l n
    have e : spS.size = 1 := rfl
    rw [show txtN l (n + 1) = (if n = 0 then txtN l n else txtN l n ++ spS) ++ tkS (l.getD n default) from rfl, show cntT l (n + 1) = cntT l n + 1 + (tkS (l.getD n default)).size from rfl]
    split <;> simp only [ByteArray.size_append] <;> omega
theorem app_list (a b : ByteArray) : (a ++ b).data.toList = a.data.toList ++ b.data.toList := by
  rw [ByteArray.data_append, Array.toList_append]
theorem txtN_join (x : Tk) (r : List Tk) : ∀ n, n ≤ r.length → (txtN (x :: r) (n + 1)).data.toList = (tkS x).data.toList ++ Lib.joinTail [32] ((r.take n).map fun y => (tkS y).data.toList)
  | 0, _ => by
    simp [txtN, app_list, Lib.joinTail]
  | n + 1, h => by
    have ih := txtN_join x r n (by omega)
    have e : txtN (x :: r) (n + 1 + 1) = (txtN (x :: r) (n + 1) ++ spS) ++ tkS ((x :: r).getD (n + 1) default) := by
      rw [show txtN (x :: r) (n + 1 + 1) = (if n + 1 = 0 then txtN (x :: r) (n + 1) else txtN (x :: r) (n + 1) ++ spS) ++ tkS ((x :: r).getD (n + 1) default) from rfl, if_neg (by omega)]
    have hr : r[n]? = some ((x :: r).getD (n + 1) default) := by
      simp [List.getD_eq_getElem?_getD, List.getElem?_eq_getElem (show n < r.length by omega)]
    have := Lib.joinTail_take_succ [32] (r.map fun y => (tkS y).data.toList) n ((tkS ((x :: r).getD (n + 1) default)).data.toList) (by rw [List.getElem?_map, hr]; rfl)
    rw [e, app_list, app_list, ih]
    rw [List.map_take, List.map_take, this]
    simp [spS]
theorem join_txt (l : List Tk) : joinS (l.map tkS) = txtM l := by
  rw [← txt_inj, ByteArray.toList_eq, ByteArray.toList_eq]
  unfold joinS txtM
  simp only [List.map_map]
  cases l with
  | nil => rfl
  | cons x r =>
    rw [List.map_cons, Lib.join_cons, List.length_cons, txtN_join x r r.length (Nat.le_refl _), List.take_of_length_le (Nat.le_refl _)]
    rfl
variable {A : Ar} (hA : A = real)
include hA
theorem rText_c (l : List Tk) (hl : l.length ≤ 1000000) (hc : cntT l l.length ≤ 100000) : PureCalls Tryd.prog 18 [slP A 3 (encT A) l] (SP (hid A (txtM l))) := by
  refine PureCalls.of Tryd.func18 rfl (by kernel_rfl) rfl ?_
  have hcount := hc
  clear hc
  try first | refine AOLg.of [] ?_ | refine QSg.of [] ?_
  repeat' (first | (refine AWp.pass ?_; first | refine AWp.seq ?_ | refine AWp.block ?_ | refine AWp.skip ?_ | refine AWp.regG [] Zc ?_ | refine AWp.cond_t rfl ?_ | refine AWp.cond_f rfl ?_ | (refine AWp.cond rfl ?_ ?_ <;> intro hc <;> (try rw [hc]) <;> ((try simp only [zn] at hc) <;> (try simp (disch := omega) only [zz hA, zb, zy, reduceCtorEq, Bool.false_eq_true, Int.reduceLT, Int.reduceLE, Int.reduceNeg] at hc) <;> (try simp only [zw] at hc)) <;> (try (exfalso; omega))) | refine AWp.exit ?_ | refine AWp.ret ⟨.inr rfl, _, RetOk.ev tabOk Zc, ?_⟩) | (refine AOLg.pass ?_; refine AOLg.nx hA tabOk Zc ?_; first | refine NX.done ?_ | refine NX.gt ?_ | refine NX.gf ?_ | (refine NX.gs ?_ ?_ <;> intro hc <;> rw [hc] <;> ((try simp only [zn] at hc) <;> (try simp (disch := omega) only [zz hA, zb, zy, reduceCtorEq, Bool.false_eq_true, Int.reduceLT, Int.reduceLE, Int.reduceNeg] at hc) <;> (try simp only [zw] at hc)) <;> (try (exfalso; omega))) | refine NX.k 1 (NX.one Z1 ?_) | refine NX.k 7 (NX.one Z7 ?_) | refine NX.k 10 (NX.one Z10 ?_) | refine NX.k 14 (NX.one Z14 ?_) | refine NX.k 18 (NX.one Z18 ?_) | refine NX.raw ?_) | refine Thn.exit ?_ | refine Blk.here ?_ | refine Blk.other (by decide) ?_ | refine ⟨.inl rfl, _, RetOk.ev tabOk Zc, ?_⟩ | fail)
  refine AWp.loopU (fun k : Nat => [(3, .ic (.lit (.string (hid A (txtN l k))))), (4, .ic (.lit (.int .i64 (hid A (cN k)))))]) (fun _ => []) (fun k => l.length - k) (fun k => k ≤ l.length) 0 (by conv => lhs; cbv) (Nat.zero_le _) (by ((repeat' (first | exact subE.nil | refine subE.cons rfl ?_ | refine subE.int rfl ?_ ?_ | refine subE.bool rfl ?_ ?_ | refine subE.str rfl ?_ ?_ | refine subE.sl rfl ?_ ?_))) <;> simp [hA, real, hid, cN, txtN]) rfl ?_
  intro k hk
  have hs := txtN_size l k
  have hm := cntT_mono l hk
  have hsp : spS.size = 1 := rfl
  have hnx : txtN l (k + 1) = (if k = 0 then txtN l k else txtN l k ++ spS) ++ tkS (l.getD k default) := rfl
  by_cases hlt : k < l.length
  · have hm2 : cntT l (k + 1) ≤ _ := cntT_mono l hlt
    have hcs : cntT l (k + 1) = cntT l k + 1 + (tkS (l.getD k default)).size := rfl
    have es : ∀ q : Nat, q = k → tkS (l.getD q default) = tkS (l.getD k default) := by rintro q rfl; rfl
    generalize hX1 : txtN l (k + 1) = X1 at *
    generalize hX : txtN l k = X at *
    generalize hS : tkS (l.getD k default) = S at *
    have e32 : (ByteArray.mk (Array.mk [32])).size = 1 := rfl
    by_cases hz : k = 0
    · rw [if_pos hz] at hnx
      try first | refine AOLg.of [] ?_ | refine QSg.of [] ?_
      repeat' (first | (refine AWp.pass ?_; first | refine AWp.seq ?_ | refine AWp.block ?_ | refine AWp.skip ?_ | refine AWp.regG [] Zc ?_ | refine AWp.cond_t rfl ?_ | refine AWp.cond_f rfl ?_ | (refine AWp.cond rfl ?_ ?_ <;> intro hc <;> (try rw [hc]) <;> ((try simp only [zn] at hc) <;> (try simp (disch := omega) only [zz hA, zb, zy, reduceCtorEq, Bool.false_eq_true, Int.reduceLT, Int.reduceLE, Int.reduceNeg] at hc) <;> (try simp only [zw] at hc)) <;> (try (exfalso; omega))) | refine AWp.exit ?_ | refine AWp.ret ⟨.inr rfl, _, RetOk.ev tabOk Zc, ?_⟩) | (refine AOLg.pass ?_; refine AOLg.nx hA tabOk Zc ?_; first | refine NX.done ?_ | refine NX.gt ?_ | refine NX.gf ?_ | (refine NX.gs ?_ ?_ <;> intro hc <;> rw [hc] <;> ((try simp only [zn] at hc) <;> (try simp (disch := omega) only [zz hA, zb, zy, reduceCtorEq, Bool.false_eq_true, Int.reduceLT, Int.reduceLE, Int.reduceNeg] at hc) <;> (try simp only [zw] at hc)) <;> (try (exfalso; omega))) | refine NX.k 1 (NX.one Z1 ?_) | refine NX.k 7 (NX.one Z7 ?_) | refine NX.k 10 (NX.one Z10 ?_) | refine NX.k 14 (NX.one Z14 ?_) | refine NX.k 18 (NX.one Z18 ?_) | (refine NX.one (One.concatM hA rfl rfl rfl (by simp only [hid_eq hA, cN, Int.toNat_natCast, hS, ByteArray.size_append, e32]; omega)) ?_) | refine NX.raw ?_) | refine Thn.exit ?_ | refine Blk.here ?_ | refine Blk.other (by decide) ?_ | refine ⟨.inl rfl, _, RetOk.ev tabOk Zc, ?_⟩ | fail)
      all_goals try (exfalso; omega)
      refine ⟨k + 1, by omega, by omega, rfl, rfl, ?_, Zk⟩
      (repeat' (first | exact subE.nil | refine subE.cons rfl ?_ | refine subE.int rfl ?_ ?_ | refine subE.bool rfl ?_ ?_ | refine subE.str rfl ?_ ?_ | refine subE.sl rfl ?_ ?_))
      · rw [hX1, hnx]; simp only [hid_eq hA, cN, Int.toNat_natCast, hS]
      · exact Zd
    · rw [if_neg hz] at hnx
      try first | refine AOLg.of [] ?_ | refine QSg.of [] ?_
      repeat' (first | (refine AWp.pass ?_; first | refine AWp.seq ?_ | refine AWp.block ?_ | refine AWp.skip ?_ | refine AWp.regG [] Zc ?_ | refine AWp.cond_t rfl ?_ | refine AWp.cond_f rfl ?_ | (refine AWp.cond rfl ?_ ?_ <;> intro hc <;> (try rw [hc]) <;> ((try simp only [zn] at hc) <;> (try simp (disch := omega) only [zz hA, zb, zy, reduceCtorEq, Bool.false_eq_true, Int.reduceLT, Int.reduceLE, Int.reduceNeg] at hc) <;> (try simp only [zw] at hc)) <;> (try (exfalso; omega))) | refine AWp.exit ?_ | refine AWp.ret ⟨.inr rfl, _, RetOk.ev tabOk Zc, ?_⟩) | (refine AOLg.pass ?_; refine AOLg.nx hA tabOk Zc ?_; first | refine NX.done ?_ | refine NX.gt ?_ | refine NX.gf ?_ | (refine NX.gs ?_ ?_ <;> intro hc <;> rw [hc] <;> ((try simp only [zn] at hc) <;> (try simp (disch := omega) only [zz hA, zb, zy, reduceCtorEq, Bool.false_eq_true, Int.reduceLT, Int.reduceLE, Int.reduceNeg] at hc) <;> (try simp only [zw] at hc)) <;> (try (exfalso; omega))) | refine NX.k 1 (NX.one Z1 ?_) | refine NX.k 7 (NX.one Z7 ?_) | refine NX.k 10 (NX.one Z10 ?_) | refine NX.k 14 (NX.one Z14 ?_) | refine NX.k 18 (NX.one Z18 ?_) | (refine NX.one (One.concatM hA rfl rfl rfl (by simp only [hid_eq hA, cN, Int.toNat_natCast, hS, ByteArray.size_append, e32]; omega)) ?_) | refine NX.raw ?_) | refine Thn.exit ?_ | refine Blk.here ?_ | refine Blk.other (by decide) ?_ | refine ⟨.inl rfl, _, RetOk.ev tabOk Zc, ?_⟩ | fail)
      all_goals try (exfalso; omega)
      refine ⟨k + 1, by omega, by omega, rfl, rfl, ?_, Zk⟩
      (repeat' (first | exact subE.nil | refine subE.cons rfl ?_ | refine subE.int rfl ?_ ?_ | refine subE.bool rfl ?_ ?_ | refine subE.str rfl ?_ ?_ | refine subE.sl rfl ?_ ?_))
      · rw [hX1, hnx]; simp only [hid_eq hA, cN, Int.toNat_natCast, hS]; rfl
      · exact Zd
  · try first | refine AOLg.of [] ?_ | refine QSg.of [] ?_
    repeat' (first | (refine AWp.pass ?_; first | refine AWp.seq ?_ | refine AWp.block ?_ | refine AWp.skip ?_ | refine AWp.regG [] Zc ?_ | refine AWp.cond_t rfl ?_ | refine AWp.cond_f rfl ?_ | (refine AWp.cond rfl ?_ ?_ <;> intro hc <;> (try rw [hc]) <;> ((try simp only [zn] at hc) <;> (try simp (disch := omega) only [zz hA, zb, zy, reduceCtorEq, Bool.false_eq_true, Int.reduceLT, Int.reduceLE, Int.reduceNeg] at hc) <;> (try simp only [zw] at hc)) <;> (try (exfalso; omega))) | refine AWp.exit ?_ | refine AWp.ret ⟨.inr rfl, _, RetOk.ev tabOk Zc, ?_⟩) | (refine AOLg.pass ?_; refine AOLg.nx hA tabOk Zc ?_; first | refine NX.done ?_ | refine NX.gt ?_ | refine NX.gf ?_ | (refine NX.gs ?_ ?_ <;> intro hc <;> rw [hc] <;> ((try simp only [zn] at hc) <;> (try simp (disch := omega) only [zz hA, zb, zy, reduceCtorEq, Bool.false_eq_true, Int.reduceLT, Int.reduceLE, Int.reduceNeg] at hc) <;> (try simp only [zw] at hc)) <;> (try (exfalso; omega))) | refine NX.k 1 (NX.one Z1 ?_) | refine NX.k 7 (NX.one Z7 ?_) | refine NX.k 10 (NX.one Z10 ?_) | refine NX.k 14 (NX.one Z14 ?_) | refine NX.k 18 (NX.one Z18 ?_) | refine NX.raw ?_) | refine Thn.exit ?_ | refine Blk.here ?_ | refine Blk.other (by decide) ?_ | refine ⟨.inl rfl, _, RetOk.ev tabOk Zc, ?_⟩ | fail)
    refine rPV_then (by conv => lhs; cbv) ?_
    rw [show txtM l = txtN l k by unfold txtM; rw [show l.length = k by omega]]
theorem join_t (l : List Tk) (hl : l.length ≤ 1000000) (hc : cntT l l.length ≤ 100000) : PureCalls Tryd.prog 24 [slP A 1 encS (l.map tkS), SP { data := #[32] }] (SP (hid A (txtM l))) := by
  have hs := txtN_size l l.length
  have e := join_txt l
  have : (txtM l).size = (txtN l l.length).size := rfl
  have h := join_c hA (l.map tkS) (by rw [List.length_map]; omega) (by rw [e]; omega)
  rwa [e, ← hid_eq hA (txtM l)] at h
set_option maxHeartbeats 1000000 in
theorem text_c (l : List Tk) (hl : l.length ≤ 1000000) (hcnt : cntT l l.length ≤ 100000) : PureCalls Tryd.prog 14 [slP A 3 (encT A) l] (SP (hid A (txtM l))) := by
  have hj := join_t hA l hl hcnt
  refine PureCalls.of Tryd.func14 rfl (by kernel_rfl) rfl ?_
  try first | refine AOLg.of [3] ?_ | refine QSg.of [3] ?_
  repeat' (first | (refine AWp.pass ?_; first | refine AWp.seq ?_ | refine AWp.block ?_ | refine AWp.skip ?_ | refine AWp.regG [3] Zc ?_ | refine AWp.cond_t rfl ?_ | refine AWp.cond_f rfl ?_ | (refine AWp.cond rfl ?_ ?_ <;> intro hc <;> (try rw [hc]) <;> ((try simp only [zn] at hc) <;> (try simp (disch := omega) only [zz hA, zb, zy, reduceCtorEq, Bool.false_eq_true, Int.reduceLT, Int.reduceLE, Int.reduceNeg] at hc) <;> (try simp only [zw] at hc)) <;> (try (exfalso; omega))) | refine AWp.exit ?_ | refine AWp.ret ⟨.inr rfl, _, RetOk.ev tabOk Zc, ?_⟩) | (refine AOLg.pass ?_; refine AOLg.nx hA tabOk Zc ?_; first | refine NX.done ?_ | refine NX.gt ?_ | refine NX.gf ?_ | (refine NX.gs ?_ ?_ <;> intro hc <;> rw [hc] <;> ((try simp only [zn] at hc) <;> (try simp (disch := omega) only [zz hA, zb, zy, reduceCtorEq, Bool.false_eq_true, Int.reduceLT, Int.reduceLE, Int.reduceNeg] at hc) <;> (try simp only [zw] at hc)) <;> (try (exfalso; omega))) | refine NX.k 1 (NX.one Z1 ?_) | refine NX.k 7 (NX.one Z7 ?_) | refine NX.k 10 (NX.one Z10 ?_) | refine NX.k 11 (NX.one Z11 ?_) | refine NX.k 14 (NX.one Z14 ?_) | refine NX.k 15 (NX.one Z15 ?_) | refine NX.k 17 (NX.one Z17 ?_) | refine NX.k 18 (NX.one Z18 ?_) | (refine NX.one (One.nilOwn tabOk 3 50 rfl rfl rfl) ?_) | refine NX.raw ?_) | refine Thn.exit ?_ | refine Blk.here ?_ | refine Blk.other (by decide) ?_ | refine ⟨.inl rfl, _, RetOk.ev tabOk Zc, ?_⟩ | fail)
  refine AWp.loopT 1 (fun x : Nat × Nat => [(8, .ic (.lit (.int .i64 (hid A (cN x.1))))), (3, .own 0 x.2)]) (fun x => [.row true x.2 9 1 (hid A (List.map encS (List.map tkS (l.take x.1))))])
    (fun x => l.length - x.1) (fun x => x.1 ≤ l.length) (0, 0) (by conv => lhs; cbv) (Nat.zero_le _) (.int rfl (by simp [hA, real, hid, cN]) (.cons rfl .nil)) (by
      simp [hA, real, hid]) (fun _ => rfl) (fun _ => rfl) ?_
  rintro ⟨k, v⟩ hk
  simp only at hk ⊢
  by_cases hlt : k < l.length
  · have hln : (List.map tkS (l.take k)).length = k := by simp; omega
    have htk : List.map tkS (l.take (k + 1)) = List.map tkS (l.take k) ++ [tkS (l.getD k default)] := by
      rw [List.take_add_one, List.map_append, List.getD_eq_getElem?_getD, List.getElem?_eq_getElem hlt]; rfl
    generalize hT2 : List.map tkS (l.take (k + 1)) = T2 at *
    generalize List.map tkS (l.take k) = T at *
    try first | refine AOLg.of [] ?_ | refine QSg.of [] ?_
    repeat' (first | (refine AWp.pass ?_; first | refine AWp.seq ?_ | refine AWp.block ?_ | refine AWp.skip ?_ | refine AWp.regG [] Zc ?_ | refine AWp.cond_t rfl ?_ | refine AWp.cond_f rfl ?_ | (refine AWp.cond rfl ?_ ?_ <;> intro hc <;> (try rw [hc]) <;> ((try simp only [zn] at hc) <;> (try simp (disch := omega) only [zz hA, zb, zy, reduceCtorEq, Bool.false_eq_true, Int.reduceLT, Int.reduceLE, Int.reduceNeg] at hc) <;> (try simp only [zw] at hc)) <;> (try (exfalso; omega))) | refine AWp.exit ?_ | refine AWp.ret ⟨.inr rfl, _, RetOk.ev tabOk Zc, ?_⟩) | (refine AOLg.pass ?_; refine AOLg.nx hA tabOk Zc ?_; first | refine NX.done ?_ | refine NX.gt ?_ | refine NX.gf ?_ | (refine NX.gs ?_ ?_ <;> intro hc <;> rw [hc] <;> ((try simp only [zn] at hc) <;> (try simp (disch := omega) only [zz hA, zb, zy, reduceCtorEq, Bool.false_eq_true, Int.reduceLT, Int.reduceLE, Int.reduceNeg] at hc) <;> (try simp only [zw] at hc)) <;> (try (exfalso; omega))) | refine NX.k 1 (NX.one Z1 ?_) | refine NX.k 7 (NX.one Z7 ?_) | refine NX.k 10 (NX.one Z10 ?_) | refine NX.k 11 (NX.one Z11 ?_) | refine NX.k 14 (NX.one Z14 ?_) | refine NX.k 15 (NX.one Z15 ?_) | refine NX.k 17 (NX.one Z17 ?_) | refine NX.k 18 (NX.one Z18 ?_) | (refine NX.one (One.appendOwnM hA tabOk (f := encS) (tkS (l.getD k default)) rfl rfl rfl rfl rfl rfl (by simp only [encS, hid_eq hA, cN, Int.toNat_natCast]) Zd Zd) ?_) | refine NX.raw ?_) | refine Thn.exit ?_ | refine Blk.here ?_ | refine Blk.other (by decide) ?_ | refine ⟨.inl rfl, _, RetOk.ev tabOk Zc, ?_⟩ | fail)
    refine ⟨(k + 1, v + 1), by simp only; omega, by simp only; omega, rfl, rfl, (by repeat' (first | exact trimOk.nil | refine trimOk.same ?_ | refine trimOk.turn rfl ?_)), ?_, rfl, ?_, Zk⟩
    · simp only [hT2, htk, hid_eq hA, cN, Int.toNat_natCast]
      rfl
    · exact .int rfl (by exact Zd) (.cons rfl .nil)
  · have htk : l.take k = l := List.take_of_length_le (by omega)
    rw [htk]
    try first | refine AOLg.of [] ?_ | refine QSg.of [] ?_
    repeat' (first | (refine AWp.pass ?_; first | refine AWp.seq ?_ | refine AWp.block ?_ | refine AWp.skip ?_ | refine AWp.regG [] Zc ?_ | refine AWp.cond_t rfl ?_ | refine AWp.cond_f rfl ?_ | (refine AWp.cond rfl ?_ ?_ <;> intro hc <;> (try rw [hc]) <;> ((try simp only [zn] at hc) <;> (try simp (disch := omega) only [zz hA, zb, zy, reduceCtorEq, Bool.false_eq_true, Int.reduceLT, Int.reduceLE, Int.reduceNeg] at hc) <;> (try simp only [zw] at hc)) <;> (try (exfalso; omega))) | refine AWp.exit ?_ | refine AWp.ret ⟨.inr rfl, _, RetOk.ev tabOk Zc, ?_⟩) | (refine AOLg.pass ?_; refine AOLg.nx hA tabOk Zc ?_; first | refine NX.done ?_ | refine NX.gt ?_ | refine NX.gf ?_ | (refine NX.gs ?_ ?_ <;> intro hc <;> rw [hc] <;> ((try simp only [zn] at hc) <;> (try simp (disch := omega) only [zz hA, zb, zy, reduceCtorEq, Bool.false_eq_true, Int.reduceLT, Int.reduceLE, Int.reduceNeg] at hc) <;> (try simp only [zw] at hc)) <;> (try (exfalso; omega))) | (refine NX.kC ?_; first | (with_reducible refine NX.call (hj) ?_) | ((first | refine NX.call (hj) ?_)) | fail) | (refine NX.kO ?_; (first | refine NX.callO (hj) (by simp [allEq]) rfl ?_)) | refine NX.k 1 (NX.one Z1 ?_) | refine NX.k 7 (NX.one Z7 ?_) | refine NX.k 10 (NX.one Z10 ?_) | refine NX.k 11 (NX.one Z11 ?_) | refine NX.k 14 (NX.one Z14 ?_) | refine NX.k 15 (NX.one Z15 ?_) | refine NX.k 17 (NX.one Z17 ?_) | refine NX.k 18 (NX.one Z18 ?_) | refine NX.raw ?_) | refine Thn.exit ?_ | refine Blk.here ?_ | refine Blk.other (by decide) ?_ | refine ⟨.inl rfl, _, RetOk.ev tabOk Zc, ?_⟩ | fail)
    refine rPV_then (by conv => lhs; cbv) ?_
    rfl
def fewM (l : List Tk) : Bool := decide (cntT l l.length ≤ 2500)
omit hA in
theorem fewM_st {l : List Tk} (h : fewM l = true) : cntT l l.length ≤ 2500 := by unfold fewM at h; simpa using h
set_option maxHeartbeats 1000000 in
theorem few_c (l : List Tk) (hb : ∀ x ∈ l, (tkS x).size ≤ 140737488351232) : PureCalls Tryd.prog 16 [slP A 3 (encT A) l] (BP (hid A (fewM l))) := by
  refine PureCalls.lens rfl fun hlen => ?_
  have hll : l.length ≤ maxLen := by
    have := hlen _ (List.mem_cons_self ..)
    simp only [lensP, lens, hid_eq hA, List.length_map] at this
    exact this.1
  refine PureCalls.of Tryd.func16 rfl (by kernel_rfl) rfl ?_
  try first | refine AOLg.of [] ?_ | refine QSg.of [] ?_
  repeat' (first | (refine AWp.pass ?_; first | refine AWp.seq ?_ | refine AWp.block ?_ | refine AWp.skip ?_ | refine AWp.regG [] Zc ?_ | refine AWp.cond_t rfl ?_ | refine AWp.cond_f rfl ?_ | (refine AWp.cond rfl ?_ ?_ <;> intro hc <;> (try rw [hc]) <;> ((try simp only [zn] at hc) <;> (try simp (disch := omega) only [zz hA, zb, zy, reduceCtorEq, Bool.false_eq_true, Int.reduceLT, Int.reduceLE, Int.reduceNeg] at hc) <;> (try simp only [zw] at hc)) <;> (try (exfalso; omega))) | refine AWp.exit ?_ | refine AWp.ret ⟨.inr rfl, _, RetOk.ev tabOk Zc, ?_⟩) | (refine AOLg.pass ?_; refine AOLg.nx hA tabOk Zc ?_; first | refine NX.done ?_ | refine NX.gt ?_ | refine NX.gf ?_ | (refine NX.gs ?_ ?_ <;> intro hc <;> rw [hc] <;> ((try simp only [zn] at hc) <;> (try simp (disch := omega) only [zz hA, zb, zy, reduceCtorEq, Bool.false_eq_true, Int.reduceLT, Int.reduceLE, Int.reduceNeg] at hc) <;> (try simp only [zw] at hc)) <;> (try (exfalso; omega))) | refine NX.k 1 (NX.one Z1 ?_) | refine NX.k 7 (NX.one Z7 ?_) | refine NX.k 10 (NX.one Z10 ?_) | refine NX.k 14 (NX.one Z14 ?_) | refine NX.k 18 (NX.one Z18 ?_) | refine NX.raw ?_) | refine Thn.exit ?_ | refine Blk.here ?_ | refine Blk.other (by decide) ?_ | refine ⟨.inl rfl, _, RetOk.ev tabOk Zc, ?_⟩ | fail)
  refine AWp.loopU (fun k : Nat => [(3, .ic (.lit (.int .i64 (hid A (cN (cntT l k)))))), (4, .ic (.lit (.int .i64 (hid A (cN k)))))]) (fun _ => []) (fun k => l.length - k) (fun k => k ≤ l.length ∧ cntT l k ≤ 2500) 0 (by conv => lhs; cbv) ⟨Nat.zero_le _, Nat.zero_le _⟩ (by ((repeat' (first | exact subE.nil | refine subE.cons rfl ?_ | refine subE.int rfl ?_ ?_ | refine subE.bool rfl ?_ ?_ | refine subE.str rfl ?_ ?_ | refine subE.sl rfl ?_ ?_))) <;> simp [hA, real, hid, cN, cntT]) rfl ?_
  rintro k ⟨hk, hc1⟩
  have hkl := cntT_len l k
  by_cases hlt : k < l.length
  · have hcs : cntT l (k + 1) = cntT l k + 1 + (tkS (l.getD k default)).size := rfl
    have hm := cntT_mono l (show k + 1 ≤ l.length by omega)
    have hS : (tkS (l.getD k default)).size ≤ 140737488351232 := hb _ (by rw [List.getD_eq_getElem?_getD, List.getElem?_eq_getElem hlt]; exact List.getElem_mem hlt)
    have es : tkS (l.getD (hid A (cN k)).toNat default) = tkS (l.getD k default) := by simp [hA, real, hid, cN]
    generalize hn2 : cntT l (k + 1) = n2 at *
    generalize hn1 : cntT l k = n1 at *
    try first | refine AOLg.of [] ?_ | refine QSg.of [] ?_
    repeat' (first | (refine AWp.pass ?_; first | refine AWp.seq ?_ | refine AWp.block ?_ | refine AWp.skip ?_ | refine AWp.regG [] Zc ?_ | refine AWp.cond_t rfl ?_ | refine AWp.cond_f rfl ?_ | (refine AWp.cond rfl ?_ ?_ <;> intro hc <;> (try rw [hc]) <;> ((try simp only [zn] at hc) <;> (try simp (disch := omega) only [zz hA, zb, zy, reduceCtorEq, Bool.false_eq_true, Int.reduceLT, Int.reduceLE, Int.reduceNeg] at hc) <;> (try simp only [zw] at hc)) <;> (try (exfalso; omega))) | refine AWp.exit ?_ | refine AWp.ret ⟨.inr rfl, _, RetOk.ev tabOk Zc, ?_⟩) | (refine AOLg.pass ?_; refine AOLg.nx hA tabOk Zc ?_; first | refine NX.done ?_ | refine NX.gt ?_ | refine NX.gf ?_ | (refine NX.gs ?_ ?_ <;> intro hc <;> rw [hc] <;> ((try simp only [zn] at hc) <;> (try simp (disch := omega) only [zz hA, zb, zy, reduceCtorEq, Bool.false_eq_true, Int.reduceLT, Int.reduceLE, Int.reduceNeg] at hc) <;> (try simp only [zw] at hc)) <;> (try (exfalso; omega))) | refine NX.k 1 (NX.one Z1 ?_) | refine NX.k 7 (NX.one Z7 ?_) | refine NX.k 10 (NX.one Z10 ?_) | refine NX.k 14 (NX.one Z14 ?_) | refine NX.k 18 (NX.one Z18 ?_) | refine NX.raw ?_) | refine Thn.exit ?_ | refine Blk.here ?_ | refine Blk.other (by decide) ?_ | refine ⟨.inl rfl, _, RetOk.ev tabOk Zc, ?_⟩ | fail)
    · have : fewM l = false := by unfold fewM; rw [decide_eq_false_iff_not]; omega
      refine rPV_then (by conv => lhs; cbv) ?_
      rw [this, hid_eq hA]
    · refine ⟨k + 1, ?_, ?_, rfl, rfl, ?_, Zk⟩ <;> (try omega)
      repeat' (first | exact subE.nil | refine subE.cons rfl ?_ | refine subE.int rfl ?_ ?_ | refine subE.bool rfl ?_ ?_ | refine subE.str rfl ?_ ?_ | refine subE.sl rfl ?_ ?_)
      · rw [hn2, hcs]; exact Zd
      · exact Zd
  · have : fewM l = true := by unfold fewM; rw [decide_eq_true_eq, show l.length = k by omega]; exact hc1
    try first | refine AOLg.of [] ?_ | refine QSg.of [] ?_
    repeat' (first | (refine AWp.pass ?_; first | refine AWp.seq ?_ | refine AWp.block ?_ | refine AWp.skip ?_ | refine AWp.regG [] Zc ?_ | refine AWp.cond_t rfl ?_ | refine AWp.cond_f rfl ?_ | (refine AWp.cond rfl ?_ ?_ <;> intro hc <;> (try rw [hc]) <;> ((try simp only [zn] at hc) <;> (try simp (disch := omega) only [zz hA, zb, zy, reduceCtorEq, Bool.false_eq_true, Int.reduceLT, Int.reduceLE, Int.reduceNeg] at hc) <;> (try simp only [zw] at hc)) <;> (try (exfalso; omega))) | refine AWp.exit ?_ | refine AWp.ret ⟨.inr rfl, _, RetOk.ev tabOk Zc, ?_⟩) | (refine AOLg.pass ?_; refine AOLg.nx hA tabOk Zc ?_; first | refine NX.done ?_ | refine NX.gt ?_ | refine NX.gf ?_ | (refine NX.gs ?_ ?_ <;> intro hc <;> rw [hc] <;> ((try simp only [zn] at hc) <;> (try simp (disch := omega) only [zz hA, zb, zy, reduceCtorEq, Bool.false_eq_true, Int.reduceLT, Int.reduceLE, Int.reduceNeg] at hc) <;> (try simp only [zw] at hc)) <;> (try (exfalso; omega))) | refine NX.k 1 (NX.one Z1 ?_) | refine NX.k 7 (NX.one Z7 ?_) | refine NX.k 10 (NX.one Z10 ?_) | refine NX.k 14 (NX.one Z14 ?_) | refine NX.k 18 (NX.one Z18 ?_) | refine NX.raw ?_) | refine Thn.exit ?_ | refine Blk.here ?_ | refine Blk.other (by decide) ?_ | refine ⟨.inl rfl, _, RetOk.ev tabOk Zc, ?_⟩ | fail)
    refine rPV_then (by conv => lhs; cbv) ?_
    rw [this, hid_eq hA]
end Go.Proofs.YtklecijcpkolfaaDoor.Aw

/- The document's example of layer 6; law LexReads. -/
set_option linter.unusedVariables false
set_option linter.unusedSimpArgs false
set_option linter.unusedSectionVars false
namespace Go.Proofs.YtklecijcpkolfaaDoor.Aw
open Go Go.RowKit
set_option maxRecDepth 10000
attribute [local irreducible] AWp AOL QS One AOLg QSg NX QX TRg TX AllO Fin3
abbrev shS : ByteArray := { data := #[88, 60, 61, 99] }
def shL : List Tk := [tkM 1 { data := #[88] } 0, tkM 3 { data := #[60, 61] } 1, tkM 1 { data := #[99] } 3]
theorem sh_toks : toksM shS = (shL, 0, 0) := by decide +kernel
theorem sh_num : numB { data := #[49, 48] } = true ∧ numV { data := #[49, 48] } = 10 := by decide +kernel
theorem sh_txt : txtM shL = { data := #[88, 32, 60, 61, 32, 99] } := by decide +kernel
theorem Scan.len {s : ByteArray} {a : Nat} {l : List Tk} {r : Option Nat} (h : Scan s a l r) : a + l.length ≤ s.size := by
  induction h with
  | done a ha h => simpa using ha
  | bad a b ha h hb h0 => simpa using ha
  | next a b e k l r ha h hb ht h0 hr ih =>
    have t := tok_top hb
    rw [ht] at t
    have := t.2.2 h0
    have := (stop_is blkB s a ha).le
    simp only [List.length_cons] at *
    omega
theorem toks_len (s : ByteArray) : (toksM s).1.length ≤ 2000 := by
  by_cases h : 2000 < s.size
  · unfold toksM; rw [if_pos h]; simp
  · obtain ⟨l, r, hk, ht⟩ := toks_scan (s := s) (by omega)
    have := hk.len
    rw [ht]
    cases r <;> simp [resS]; omega
variable {A : Ar} (hA : A = real)
include hA
theorem shown6_c : PureCalls Tryd.prog 10 [] (BP true) := by
  have h1 := toks_c hA shS (by decide)
  rw [sh_toks] at h1
  have h2 := number_c hA { data := #[49, 48] } (by decide)
  rw [sh_num.1, sh_num.2] at h2
  have h3 := text_c hA shL (by decide) (by decide +kernel)
  rw [sh_txt] at h3
  simp only [hid_eq hA (α := Bool), hid_eq hA (α := Int), hid_eq hA (α := ByteArray)] at h1 h2 h3
  refine PureCalls.of Tryd.func10 rfl (by kernel_rfl) rfl ?_
  have q1 : (shL.length : Int) = 3 := rfl
  have q2 : sameB (tkK (shL.getD (Int.toNat 1) default)) 3 (tkS (shL.getD (Int.toNat 1) default)) { data := { toList := [60, 61] } } (tkN (shL.getD (Int.toNat 1) default)) 1 = true := by decide +kernel
  have q3 : tkN (shL.getD (Int.toNat 2) default) = 3 := by decide +kernel
  try first | refine AOLg.of [] ?_ | refine QSg.of [] ?_
  repeat' (first | (refine AWp.pass ?_; first | refine AWp.seq ?_ | refine AWp.block ?_ | refine AWp.skip ?_ | refine AWp.regG [] Zc ?_ | refine AWp.cond_t rfl ?_ | refine AWp.cond_f rfl ?_ | (refine AWp.cond rfl ?_ ?_ <;> intro hc <;> (try rw [hc]) <;> ((try simp only [zn] at hc) <;> (try simp (disch := omega) only [zz hA, zb, zy, reduceCtorEq, Bool.false_eq_true, Int.reduceLT, Int.reduceLE, Int.reduceNeg] at hc) <;> (try simp only [zw] at hc)) <;> (try (exfalso; omega))) | refine AWp.exit ?_ | refine AWp.ret ⟨.inr rfl, _, RetOk.ev tabOk Zc, ?_⟩) | (refine AOLg.pass ?_; refine AOLg.nx hA tabOk Zc ?_; first | refine NX.done ?_ | refine NX.gt ?_ | refine NX.gf ?_ | (refine NX.gs ?_ ?_ <;> intro hc <;> rw [hc] <;> ((try simp only [zn] at hc) <;> (try simp (disch := omega) only [zz hA, zb, zy, reduceCtorEq, Bool.false_eq_true, Int.reduceLT, Int.reduceLE, Int.reduceNeg] at hc) <;> (try simp only [zw] at hc)) <;> (try (exfalso; omega))) | (refine NX.kC ?_; first | (with_reducible refine NX.call (h1) ?_) | (with_reducible refine NX.call (h2) ?_) | (with_reducible refine NX.call (h3) ?_) | ((first | refine NX.call (h1) ?_ | refine NX.call (h2) ?_ | refine NX.call (h3) ?_)) | fail) | (refine NX.kO ?_; (first | refine NX.callO (h1) (by simp [allEq]) rfl ?_ | refine NX.callO (h2) (by simp [allEq]) rfl ?_ | refine NX.callO (h3) (by simp [allEq]) rfl ?_)) | refine NX.k 1 (NX.one Z1 ?_) | refine NX.k 8 (NX.one Z8 ?_) | refine NX.k 10 (NX.one Z10 ?_) | refine NX.k 14 (NX.one Z14 ?_) | refine NX.k 18 (NX.one Z18 ?_) | (refine NX.one (One.eqTok hA rfl rfl rfl) ?_) | refine NX.raw ?_) | refine Thn.exit ?_ | refine Blk.here ?_ | refine Blk.other (by decide) ?_ | refine ⟨.inl rfl, _, RetOk.ev tabOk Zc, ?_⟩ | fail)
  all_goals first
    | (exfalso; omega)
    | (exfalso; simp only [q2, q3, not_true_eq_false, reduceCtorEq] at *; done)
    | (refine rPV_then (by conv => lhs; cbv) ?_; simp [hA, real]; done)
    | fail
theorem reads_law (s : ByteArray) (hs : s.size ≤ 140737488351232) : PureCalls Tryd.prog 3 [SP s] (BP true) := by
  have hsh := shown6_c hA
  have h1 := toks_c hA s hs
  have h2 := rToks_c hA s hs
  have hl := toks_len s
  have h3 := rSame_c hA (toksM s).1 (toksM s).1 (by omega) (by omega)
  rw [show decide ((toksM s).1 = (toksM s).1) = true from decide_eq_true rfl, hid_eq hA (α := Bool)] at h3
  generalize toksM s = R at *
  obtain ⟨l, a, e⟩ := R
  simp only at h1 h2 h3
  refine PureCalls.of Tryd.func3 rfl (by kernel_rfl) rfl ?_
  try first | refine AOLg.of [] ?_ | refine QSg.of [] ?_
  repeat' (first | (refine AWp.pass ?_; first | refine AWp.seq ?_ | refine AWp.block ?_ | refine AWp.skip ?_ | refine AWp.regG [] Zc ?_ | refine AWp.cond_t rfl ?_ | refine AWp.cond_f rfl ?_ | (refine AWp.cond rfl ?_ ?_ <;> intro hc <;> (try rw [hc]) <;> ((try simp only [zn] at hc) <;> (try simp (disch := omega) only [zz hA, zb, zy, reduceCtorEq, Bool.false_eq_true, Int.reduceLT, Int.reduceLE, Int.reduceNeg] at hc) <;> (try simp only [zw] at hc)) <;> (try (exfalso; omega))) | refine AWp.exit ?_ | refine AWp.ret ⟨.inr rfl, _, RetOk.ev tabOk Zc, ?_⟩) | (refine AOLg.pass ?_; refine AOLg.nx hA tabOk Zc ?_; first | refine NX.done ?_ | refine NX.gt ?_ | refine NX.gf ?_ | (refine NX.gs ?_ ?_ <;> intro hc <;> rw [hc] <;> ((try simp only [zn] at hc) <;> (try simp (disch := omega) only [zz hA, zb, zy, reduceCtorEq, Bool.false_eq_true, Int.reduceLT, Int.reduceLE, Int.reduceNeg] at hc) <;> (try simp only [zw] at hc)) <;> (try (exfalso; omega))) | (refine NX.kC ?_; first | (with_reducible refine NX.call (hsh) ?_) | (with_reducible refine NX.call (h1) ?_) | (with_reducible refine NX.call (h2) ?_) | (with_reducible refine NX.call (h3) ?_) | ((first | refine NX.call (hsh) ?_ | refine NX.call (h1) ?_ | refine NX.call (h2) ?_ | refine NX.call (h3) ?_)) | fail) | (refine NX.kO ?_; (first | refine NX.callO (hsh) (by simp [allEq]) rfl ?_ | refine NX.callO (h1) (by simp [allEq]) rfl ?_ | refine NX.callO (h2) (by simp [allEq]) rfl ?_ | refine NX.callO (h3) (by simp [allEq]) rfl ?_)) | refine NX.k 8 (NX.one Z8 ?_) | refine NX.k 10 (NX.one Z10 ?_) | refine NX.raw ?_) | refine Thn.exit ?_ | refine Blk.here ?_ | refine Blk.other (by decide) ?_ | refine ⟨.inl rfl, _, RetOk.ev tabOk Zc, ?_⟩ | fail)
  all_goals exact Ze
end Go.Proofs.YtklecijcpkolfaaDoor.Aw

/- Laws LexTells and LexKinds. -/
set_option linter.unusedVariables false
set_option linter.unusedSimpArgs false
set_option linter.unusedSectionVars false
namespace Go.Proofs.YtklecijcpkolfaaDoor.Aw
open Go Go.RowKit
set_option maxRecDepth 10000
attribute [local irreducible] AWp AOL QS One AOLg QSg NX QX TRg TX AllO Fin3
theorem tok_kinds {s : ByteArray} {b e : Nat} {k : Int} (hb : b < s.size) (ht : tokM s b = (k, e)) (h0 : k ≠ 0) :
    b < e ∧ e ≤ s.size ∧ ((letB (sb s b) = true ∧ k = 1 ∧ e = stop innB s b) ∨ (letB (sb s b) = false ∧ figB (sb s b) = true ∧ k = 2 ∧ e = stop figB s b) ∨ (letB (sb s b) = false ∧ figB (sb s b) = false ∧ k = 3 ∧ e ≤ b + 2)) := by
  have t := tok_top hb
  rw [ht] at t
  refine ⟨t.2.2 h0, t.1, ?_⟩
  unfold tokM at ht
  split at ht
  · rename_i h1
    simp only [Prod.mk.injEq] at ht
    exact .inl ⟨h1, ht.1.symm, ht.2.symm⟩
  · rename_i h1
    have h1 := Bool.eq_false_iff.2 h1
    split at ht
    · rename_i h2
      split at ht
      · simp only [Prod.mk.injEq] at ht
        exact .inr (.inl ⟨h1, h2, ht.1.symm, ht.2.symm⟩)
      · simp only [Prod.mk.injEq] at ht
        exact absurd ht.1.symm h0
    · rename_i h2
      have h2 := Bool.eq_false_iff.2 h2
      split at ht
      · simp only [Prod.mk.injEq] at ht
        exact .inr (.inr ⟨h1, h2, ht.1.symm, by omega⟩)
      · split at ht
        · simp only [Prod.mk.injEq] at ht
          exact .inr (.inr ⟨h1, h2, ht.1.symm, by omega⟩)
        · simp only [Prod.mk.injEq] at ht
          exact absurd ht.1.symm h0
/-- Where a token ends. -/
def endT (x : Tk) : Nat := (tkN x).toNat + (tkS x).size
/-- What is so of each token of a text, from a place on. -/
structure TokAt (s : ByteArray) (x : Tk) (b e : Nat) (k : Int) : Prop where
  eq : x = tkM k (cutS s b e) b
  lt : b < s.size
  tok : tokM s b = (k, e)
  ne : k ≠ 0
theorem TokAt.size {s : ByteArray} {x : Tk} {b e : Nat} {k : Int} (h : TokAt s x b e k) : ((cutS s b e).size : Int) = e - b ∧ b < e ∧ e ≤ s.size ∧ endT x = e := by
  have t := tok_top h.lt
  rw [h.tok] at t
  have := t.2.2 h.ne
  have h1 := t.1
  have h2 := cutS_size s b e (by omega) (by simp only at this; omega) (by simp only at h1; omega)
  refine ⟨h2, this, h1, ?_⟩
  rw [h.eq]
  unfold endT tkN tkS tkM
  simp only at *
  omega
theorem Scan.get {s : ByteArray} {a : Nat} {l : List Tk} {r : Option Nat} (h : Scan s a l r) : ∀ i, i < l.length → ∃ b e k, TokAt s (l.getD i default) b e k ∧ stop blkB s (if i = 0 then a else endT (l.getD (i - 1) default)) = b ∧ (if i = 0 then a else endT (l.getD (i - 1) default)) ≤ b := by
  induction h with
  | done a ha h => intro i hi; simp at hi
  | bad a b ha h hb h0 => intro i hi; simp at hi
  | next a b e k l r ha h hb ht h0 hr ih =>
    have hta : TokAt s (tkM k (cutS s b e) b) b e k := ⟨rfl, hb, ht, h0⟩
    intro i hi
    match i with
    | 0 =>
      refine ⟨b, e, k, hta, by simpa using h, ?_⟩
      have := (stop_is blkB s a ha).le
      simp only [if_true]
      omega
    | i + 1 =>
      obtain ⟨b', e', k', g1, g2, g3⟩ := ih i (by simpa using hi)
      refine ⟨b', e', k', by simpa using g1, ?_, ?_⟩
      · rw [if_neg (by omega)]
        rw [← g2]
        by_cases hz : i = 0
        · subst hz; simp only [if_true]
          rw [show endT ((tkM k (cutS s b e) b :: l).getD (0 + 1 - 1) default) = endT (tkM k (cutS s b e) b) from rfl, hta.size.2.2.2]
        · rw [if_neg hz]
          obtain ⟨j, rfl⟩ : ∃ j, i = j + 1 := ⟨i - 1, by omega⟩
          rfl
      · rw [if_neg (by omega)]
        by_cases hz : i = 0
        · subst hz; simp only [if_true] at g3
          rw [show endT ((tkM k (cutS s b e) b :: l).getD (0 + 1 - 1) default) = endT (tkM k (cutS s b e) b) from rfl, hta.size.2.2.2]
          exact g3
        · rw [if_neg hz] at g3
          obtain ⟨j, rfl⟩ : ∃ j, i = j + 1 := ⟨i - 1, by omega⟩
          exact g3
theorem toks_get {s : ByteArray} (hs : s.size ≤ 2000) (i : Nat) (hi : i < (toksM s).1.length) : ∃ b e k, TokAt s ((toksM s).1.getD i default) b e k := by
  obtain ⟨l, r, hk, ht⟩ := toks_scan hs
  rw [ht] at hi ⊢
  cases r with
  | some b => simp [resS] at hi
  | none =>
    simp only [resS, List.nil_append] at hi ⊢
    obtain ⟨b, e, k, h, _⟩ := hk.get i hi
    exact ⟨b, e, k, h⟩
variable {A : Ar} (hA : A = real)
include hA
def FitT (l : List Tk) : Prop := ∀ x ∈ l, (tkS x).size ≤ 140737488351232
theorem tells_law (l m : List Tk) (s : ByteArray) (hl : FitT l) (hm : FitT m) : PureCalls Tryd.prog 9 [slP A 3 (encT A) l, slP A 3 (encT A) m, SP s] (BP true) := by
  have hsh := shown6_c hA
  have f1 := few_c hA l hl
  have f2 := few_c hA m hm
  cases hf1 : fewM l with
  | false =>
    rw [hf1, hid_eq hA (α := Bool)] at f1
    refine PureCalls.of Tryd.func9 rfl (by kernel_rfl) rfl ?_
    try first | refine AOLg.of [] ?_ | refine QSg.of [] ?_
    repeat' (first | (refine AWp.pass ?_; first | refine AWp.seq ?_ | refine AWp.block ?_ | refine AWp.skip ?_ | refine AWp.regG [] Zc ?_ | refine AWp.cond_t rfl ?_ | refine AWp.cond_f rfl ?_ | (refine AWp.cond rfl ?_ ?_ <;> intro hc <;> (try rw [hc]) <;> ((try simp only [zn] at hc) <;> (try simp (disch := omega) only [zz hA, zb, zy, reduceCtorEq, Bool.false_eq_true, Int.reduceLT, Int.reduceLE, Int.reduceNeg] at hc) <;> (try simp only [zw] at hc)) <;> (try (exfalso; omega))) | refine AWp.exit ?_ | refine AWp.ret ⟨.inr rfl, _, RetOk.ev tabOk Zc, ?_⟩) | (refine AOLg.pass ?_; refine AOLg.nx hA tabOk Zc ?_; first | refine NX.done ?_ | refine NX.gt ?_ | refine NX.gf ?_ | (refine NX.gs ?_ ?_ <;> intro hc <;> rw [hc] <;> ((try simp only [zn] at hc) <;> (try simp (disch := omega) only [zz hA, zb, zy, reduceCtorEq, Bool.false_eq_true, Int.reduceLT, Int.reduceLE, Int.reduceNeg] at hc) <;> (try simp only [zw] at hc)) <;> (try (exfalso; omega))) | (refine NX.kC ?_; first | (with_reducible refine NX.call (hsh) ?_) | (with_reducible refine NX.call (f1) ?_) | (with_reducible refine NX.call (f2) ?_) | ((first | refine NX.call (hsh) ?_ | refine NX.call (f1) ?_ | refine NX.call (f2) ?_)) | fail) | (refine NX.kO ?_; (first | refine NX.callO (hsh) (by simp [allEq]) rfl ?_ | refine NX.callO (f1) (by simp [allEq]) rfl ?_ | refine NX.callO (f2) (by simp [allEq]) rfl ?_)) | refine NX.k 8 (NX.one Z8 ?_) | refine NX.k 10 (NX.one Z10 ?_) | refine NX.raw ?_) | refine Thn.exit ?_ | refine Blk.here ?_ | refine Blk.other (by decide) ?_ | refine ⟨.inl rfl, _, RetOk.ev tabOk Zc, ?_⟩ | fail)
    all_goals exact Ze
  | true =>
    rw [hf1, hid_eq hA (α := Bool)] at f1
    cases hf2 : fewM m with
    | false =>
      rw [hf2, hid_eq hA (α := Bool)] at f2
      refine PureCalls.of Tryd.func9 rfl (by kernel_rfl) rfl ?_
      try first | refine AOLg.of [] ?_ | refine QSg.of [] ?_
      repeat' (first | (refine AWp.pass ?_; first | refine AWp.seq ?_ | refine AWp.block ?_ | refine AWp.skip ?_ | refine AWp.regG [] Zc ?_ | refine AWp.cond_t rfl ?_ | refine AWp.cond_f rfl ?_ | (refine AWp.cond rfl ?_ ?_ <;> intro hc <;> (try rw [hc]) <;> ((try simp only [zn] at hc) <;> (try simp (disch := omega) only [zz hA, zb, zy, reduceCtorEq, Bool.false_eq_true, Int.reduceLT, Int.reduceLE, Int.reduceNeg] at hc) <;> (try simp only [zw] at hc)) <;> (try (exfalso; omega))) | refine AWp.exit ?_ | refine AWp.ret ⟨.inr rfl, _, RetOk.ev tabOk Zc, ?_⟩) | (refine AOLg.pass ?_; refine AOLg.nx hA tabOk Zc ?_; first | refine NX.done ?_ | refine NX.gt ?_ | refine NX.gf ?_ | (refine NX.gs ?_ ?_ <;> intro hc <;> rw [hc] <;> ((try simp only [zn] at hc) <;> (try simp (disch := omega) only [zz hA, zb, zy, reduceCtorEq, Bool.false_eq_true, Int.reduceLT, Int.reduceLE, Int.reduceNeg] at hc) <;> (try simp only [zw] at hc)) <;> (try (exfalso; omega))) | (refine NX.kC ?_; first | (with_reducible refine NX.call (hsh) ?_) | (with_reducible refine NX.call (f1) ?_) | (with_reducible refine NX.call (f2) ?_) | ((first | refine NX.call (hsh) ?_ | refine NX.call (f1) ?_ | refine NX.call (f2) ?_)) | fail) | (refine NX.kO ?_; (first | refine NX.callO (hsh) (by simp [allEq]) rfl ?_ | refine NX.callO (f1) (by simp [allEq]) rfl ?_ | refine NX.callO (f2) (by simp [allEq]) rfl ?_)) | refine NX.k 8 (NX.one Z8 ?_) | refine NX.k 10 (NX.one Z10 ?_) | refine NX.raw ?_) | refine Thn.exit ?_ | refine Blk.here ?_ | refine Blk.other (by decide) ?_ | refine ⟨.inl rfl, _, RetOk.ev tabOk Zc, ?_⟩ | fail)
      all_goals exact Ze
    | true =>
      rw [hf2, hid_eq hA (α := Bool)] at f2
      have g1 := fewM_st hf1
      have g2 := fewM_st hf2
      have l1 := cntT_len l l.length
      have l2 := cntT_len m m.length
      have t1 := text_c hA l (by omega) (by omega)
      have t2 := rText_c hA l (by omega) (by omega)
      have s1 := same_c hA l m (by omega) (by omega)
      have s2 := rSame_c hA l m (by omega) (by omega)
      generalize decide (l = m) = b at *
      generalize txtM l = X at *
      by_cases hs : 100 < s.size
      · refine PureCalls.of Tryd.func9 rfl (by kernel_rfl) rfl ?_
        try first | refine AOLg.of [] ?_ | refine QSg.of [] ?_
        repeat' (first | (refine AWp.pass ?_; first | refine AWp.seq ?_ | refine AWp.block ?_ | refine AWp.skip ?_ | refine AWp.regG [] Zc ?_ | refine AWp.cond_t rfl ?_ | refine AWp.cond_f rfl ?_ | (refine AWp.cond rfl ?_ ?_ <;> intro hc <;> (try rw [hc]) <;> ((try simp only [zn] at hc) <;> (try simp (disch := omega) only [zz hA, zb, zy, reduceCtorEq, Bool.false_eq_true, Int.reduceLT, Int.reduceLE, Int.reduceNeg] at hc) <;> (try simp only [zw] at hc)) <;> (try (exfalso; omega))) | refine AWp.exit ?_ | refine AWp.ret ⟨.inr rfl, _, RetOk.ev tabOk Zc, ?_⟩) | (refine AOLg.pass ?_; refine AOLg.nx hA tabOk Zc ?_; first | refine NX.done ?_ | refine NX.gt ?_ | refine NX.gf ?_ | (refine NX.gs ?_ ?_ <;> intro hc <;> rw [hc] <;> ((try simp only [zn] at hc) <;> (try simp (disch := omega) only [zz hA, zb, zy, reduceCtorEq, Bool.false_eq_true, Int.reduceLT, Int.reduceLE, Int.reduceNeg] at hc) <;> (try simp only [zw] at hc)) <;> (try (exfalso; omega))) | (refine NX.kC ?_; first | (with_reducible refine NX.call (hsh) ?_) | (with_reducible refine NX.call (f1) ?_) | (with_reducible refine NX.call (f2) ?_) | ((first | refine NX.call (hsh) ?_ | refine NX.call (f1) ?_ | refine NX.call (f2) ?_)) | fail) | (refine NX.kO ?_; (first | refine NX.callO (hsh) (by simp [allEq]) rfl ?_ | refine NX.callO (f1) (by simp [allEq]) rfl ?_ | refine NX.callO (f2) (by simp [allEq]) rfl ?_)) | refine NX.k 8 (NX.one Z8 ?_) | refine NX.k 10 (NX.one Z10 ?_) | refine NX.raw ?_) | refine Thn.exit ?_ | refine Blk.here ?_ | refine Blk.other (by decide) ?_ | refine ⟨.inl rfl, _, RetOk.ev tabOk Zc, ?_⟩ | fail)
        all_goals exact Ze
      · have n1 := number_c hA s (by omega)
        have n2 := rNumber_c hA s (by omega)
        generalize numV s = v at *
        generalize numB s = c at *
        refine PureCalls.of Tryd.func9 rfl (by kernel_rfl) rfl ?_
        try first | refine AOLg.of [] ?_ | refine QSg.of [] ?_
        repeat' (first | (refine AWp.pass ?_; first | refine AWp.seq ?_ | refine AWp.block ?_ | refine AWp.skip ?_ | refine AWp.regG [] Zc ?_ | refine AWp.cond_t rfl ?_ | refine AWp.cond_f rfl ?_ | (refine AWp.cond rfl ?_ ?_ <;> intro hc <;> (try rw [hc]) <;> ((try simp only [zn] at hc) <;> (try simp (disch := omega) only [zz hA, zb, zy, reduceCtorEq, Bool.false_eq_true, Int.reduceLT, Int.reduceLE, Int.reduceNeg] at hc) <;> (try simp only [zw] at hc)) <;> (try (exfalso; omega))) | refine AWp.exit ?_ | refine AWp.ret ⟨.inr rfl, _, RetOk.ev tabOk Zc, ?_⟩) | (refine AOLg.pass ?_; refine AOLg.nx hA tabOk Zc ?_; first | refine NX.done ?_ | refine NX.gt ?_ | refine NX.gf ?_ | (refine NX.gs ?_ ?_ <;> intro hc <;> rw [hc] <;> ((try simp only [zn] at hc) <;> (try simp (disch := omega) only [zz hA, zb, zy, reduceCtorEq, Bool.false_eq_true, Int.reduceLT, Int.reduceLE, Int.reduceNeg] at hc) <;> (try simp only [zw] at hc)) <;> (try (exfalso; omega))) | (refine NX.kC ?_; first | (with_reducible refine NX.call (hsh) ?_) | (with_reducible refine NX.call (f1) ?_) | (with_reducible refine NX.call (f2) ?_) | (with_reducible refine NX.call (t1) ?_) | (with_reducible refine NX.call (t2) ?_) | (with_reducible refine NX.call (s1) ?_) | (with_reducible refine NX.call (s2) ?_) | (with_reducible refine NX.call (n1) ?_) | (with_reducible refine NX.call (n2) ?_) | ((first | refine NX.call (hsh) ?_ | refine NX.call (f1) ?_ | refine NX.call (f2) ?_ | refine NX.call (t1) ?_ | refine NX.call (t2) ?_ | refine NX.call (s1) ?_ | refine NX.call (s2) ?_ | refine NX.call (n1) ?_ | refine NX.call (n2) ?_)) | fail) | (refine NX.kO ?_; (first | refine NX.callO (hsh) (by simp [allEq]) rfl ?_ | refine NX.callO (f1) (by simp [allEq]) rfl ?_ | refine NX.callO (f2) (by simp [allEq]) rfl ?_ | refine NX.callO (t1) (by simp [allEq]) rfl ?_ | refine NX.callO (t2) (by simp [allEq]) rfl ?_ | refine NX.callO (s1) (by simp [allEq]) rfl ?_ | refine NX.callO (s2) (by simp [allEq]) rfl ?_ | refine NX.callO (n1) (by simp [allEq]) rfl ?_ | refine NX.callO (n2) (by simp [allEq]) rfl ?_)) | refine NX.k 8 (NX.one Z8 ?_) | refine NX.k 10 (NX.one Z10 ?_) | refine NX.raw ?_) | refine Thn.exit ?_ | refine Blk.here ?_ | refine Blk.other (by decide) ?_ | refine ⟨.inl rfl, _, RetOk.ev tabOk Zc, ?_⟩ | fail)
        all_goals exact Ze
end Go.Proofs.YtklecijcpkolfaaDoor.Aw

/- Tokens of texts put together: a plain law. -/
set_option linter.unusedVariables false
set_option linter.unusedSimpArgs false
set_option linter.unusedSectionVars false
namespace Go.Proofs.YtklecijcpkolfaaDoor.Aw
open Go Go.RowKit
set_option maxRecDepth 10000
theorem sb_left (a b : ByteArray) (i : Int) (h0 : 0 ≤ i) (h : i < a.size) : sb (a ++ b) i = sb a i := by
  have e : a.data.toList.length = a.size := by rw [Array.length_toList]; rfl
  unfold sb
  rw [app_list, List.getD_eq_getElem?_getD, List.getD_eq_getElem?_getD, List.getElem?_append_left (by omega)]
theorem sb_right (a b : ByteArray) (i : Int) (h : (a.size : Int) ≤ i) : sb (a ++ b) i = sb b (i - a.size) := by
  have e : a.data.toList.length = a.size := by rw [Array.length_toList]; rfl
  unfold sb
  rw [app_list, List.getD_eq_getElem?_getD, List.getD_eq_getElem?_getD, List.getElem?_append_right (by omega), e, show i.toNat - a.size = (i - (a.size : Int)).toNat by omega]
theorem scan_skip {s : ByteArray} (acc : List Tk) : ∀ (n a : Nat), a + n ≤ s.size → (∀ i : Nat, a ≤ i → i < a + n → blkB (sb s i) = true) → scan s a acc = scan s (a + n) acc
  | 0, a, _, _ => rfl
  | n + 1, a, h, k => by
    rw [← scan_blank acc (by omega) (k a (Nat.le_refl _) (by omega)), scan_skip acc n (a + 1) (by omega) fun i h1 h2 => k i (by omega) (by omega)]
    rw [show a + 1 + n = a + (n + 1) by omega]
theorem scan_top (s : ByteArray) (acc : List Tk) : scan s s.size acc = (acc, 0, 0) :=
  scan_end acc (IsStop.eq ⟨Nat.le_refl _, Nat.le_refl _, fun i h1 h2 => absurd h2 (by omega), fun h => absurd h (by omega)⟩)
def shT (o : Nat) (l : List Tk) : List Tk := l.map fun x => (tkK x, tkS x, tkN x + o)
theorem shT_len (o : Nat) (l : List Tk) : (shT o l).length = l.length := by unfold shT; rw [List.length_map]
theorem shT_get (o : Nat) (l : List Tk) (i : Nat) (h : i < l.length) : (shT o l).getD i default = (tkK (l.getD i default), tkS (l.getD i default), tkN (l.getD i default) + o) := by
  unfold shT
  simp [List.getD_eq_getElem?_getD, List.getElem?_eq_getElem h]
theorem shT_zero (l : List Tk) : shT 0 l = l := by
  unfold shT
  have : (fun x : Tk => (tkK x, tkS x, tkN x + ((0 : Nat) : Int))) = id := by
    funext x
    simp [tkK, tkS, tkN]
  rw [this, List.map_id]
/-- All bytes of a text are blanks. -/
def Blk0 (t : ByteArray) : Prop := ∀ i : Nat, i < t.size → blkB (sb t i) = true
theorem toks_blank {t : ByteArray} (h : Blk0 t) (hs : t.size ≤ 2000) : toksM t = ([], 0, 0) := by
  unfold toksM
  rw [if_neg (by omega), scan_skip [] t.size 0 (by omega) fun i _ h2 => h i (by omega), Nat.zero_add, scan_top]
theorem toks_around {t s : ByteArray} (h : Blk0 t) (hs : s.size + 2 * t.size ≤ 2000) {l : List Tk} {r : Option Nat} (k : Scan s 0 l r) :
    toksM ((t ++ s) ++ t) = match r with | none => (shT t.size l, 0, 0) | some b => ([], t.size + b, 2) := by
  have e1 : ((t ++ s) ++ t).size = t.size + s.size + t.size := by rw [ByteArray.size_append, ByteArray.size_append]
  have e2 : (t ++ s).size = t.size + s.size := ByteArray.size_append
  have hp : Placed s ((t ++ s) ++ t) t.size := by
    refine ⟨by omega, fun i hi => ?_, fun hb => ?_⟩
    · rw [sb_left _ _ _ (by omega) (by omega), sb_right _ _ _ (by omega), show ((t.size + i : Nat) : Int) - t.size = i by omega]
    · rw [sb_right _ _ _ (by omega), e2, show ((t.size + s.size : Nat) : Int) - ((t.size + s.size : Nat) : Int) = ((0 : Nat) : Int) by omega]
      exact h 0 (by omega)
  have hsc := hp.scan k []
  unfold toksM
  rw [if_neg (by omega), scan_skip [] t.size 0 (by omega) (fun i _ h2 => by
    rw [sb_left _ _ _ (by omega) (by omega), sb_left _ _ _ (by omega) (by omega)]
    exact h i (by omega)), Nat.zero_add]
  rw [Nat.add_zero] at hsc
  rw [hsc]
  cases r with
  | some b => rfl
  | none =>
    simp only [List.nil_append]
    rw [scan_skip _ t.size (t.size + s.size) (by omega) (fun i h1 h2 => by
      rw [sb_right _ _ _ (by omega), e2, show (i : Int) - ((t.size + s.size : Nat) : Int) = ((i - (t.size + s.size) : Nat) : Int) by omega]
      exact h _ (by omega)), ← e1, scan_top]
    rfl
theorem scan_two {a b : ByteArray} {l m : List Tk} {r q : Option Nat} (k : Scan a 0 l r) (j : Scan b 0 m q) :
    scan ((a ++ spS) ++ b) 0 [] = match r with | some x => ([], x, 2) | none => match q with | some y => ([], a.size + 1 + y, 2) | none => (l ++ shT (a.size + 1) m, 0, 0) := by
  have e0 : spS.size = 1 := rfl
  have e1 : ((a ++ spS) ++ b).size = a.size + 1 + b.size := by rw [ByteArray.size_append, ByteArray.size_append, e0]
  have e2 : (a ++ spS).size = a.size + 1 := by rw [ByteArray.size_append, e0]
  have hbl : blkB (sb ((a ++ spS) ++ b) (a.size : Nat)) = true := by
    rw [sb_left _ _ _ (by omega) (by omega), sb_right _ _ _ (by omega), Int.sub_self]
    rfl
  have hp : Placed a ((a ++ spS) ++ b) 0 := by
    refine ⟨by omega, fun i hi => ?_, fun _ => ?_⟩
    · rw [Nat.zero_add, sb_left _ _ _ (by omega) (by omega), sb_left _ _ _ (by omega) (by omega)]
    · rw [Nat.zero_add]; exact hbl
  have hp2 : Placed b ((a ++ spS) ++ b) (a.size + 1) := by
    refine ⟨by omega, fun i hi => ?_, fun hb => by omega⟩
    rw [sb_right _ _ _ (by omega), e2, show ((a.size + 1 + i : Nat) : Int) - ((a.size + 1 : Nat) : Int) = i by omega]
  have h1 := hp.scan k []
  rw [Nat.add_zero] at h1
  rw [h1]
  cases r with
  | some x => simp
  | none =>
    simp only [List.nil_append, Nat.zero_add]
    have h2 := hp2.scan j (shT 0 l)
    rw [Nat.add_zero] at h2
    rw [← scan_blank _ (by omega) hbl, show (List.map (fun x : Tk => (tkK x, tkS x, tkN x + ((0 : Nat) : Int))) l) = shT 0 l from rfl, h2]
    cases q with
    | some y => rfl
    | none =>
      simp only
      rw [← e1, scan_top, shT_zero]
      rfl
theorem toks_two {a b : ByteArray} (hs : a.size + b.size ≤ 1999) {l m : List Tk} {r q : Option Nat} (k : Scan a 0 l r) (j : Scan b 0 m q) :
    toksM ((a ++ spS) ++ b) = match r with | some x => ([], x, 2) | none => match q with | some y => ([], a.size + 1 + y, 2) | none => (l ++ shT (a.size + 1) m, 0, 0) := by
  have e0 : spS.size = 1 := rfl
  have e1 : ((a ++ spS) ++ b).size = a.size + 1 + b.size := by rw [ByteArray.size_append, ByteArray.size_append, e0]
  unfold toksM
  rw [if_neg (by omega)]
  exact scan_two k j
theorem cut_all (s : ByteArray) : cutS s 0 s.size = s := by
  have h1 := cutS_size s 0 s.size (by omega) (by omega) (by omega)
  refine txt_ext (by omega) fun i hi => ?_
  rw [cutS_get s 0 s.size i (by omega) (by omega) (by omega) (by omega), Int.zero_add]
/-- A token's own text is it. -/
theorem tok_self {s : ByteArray} {b e : Nat} {k : Int} (hb : b < s.size) (ht : tokM s b = (k, e)) (h0 : k ≠ 0) : tokM (cutS s b e) 0 = (k, (cutS s b e).size) := by
  have t := tok_top hb
  rw [ht] at t
  simp only at t
  have t2 := t.2.2 h0
  have hz := cutS_size s b e (by omega) (by omega) (by omega)
  have hg : ∀ i : Nat, i < e - b → sb (cutS s b e) i = sb s ((b + i : Nat) : Int) := fun i hi => by
    rw [cutS_get s b e i (by omega) (by omega) (by omega) (by omega)]
    rw [show ((b + i : Nat) : Int) = (b : Int) + i by omega]
  have hg0 : sb (cutS s b e) (0 : Nat) = sb s b := by have := hg 0 (by omega); rwa [Nat.add_zero] at this
  have full : ∀ p : Int → Bool, e = stop p s b → stop p (cutS s b e) 0 = (cutS s b e).size := fun p hp => by
    have i1 := stop_is p s b (by omega)
    refine IsStop.eq ⟨Nat.zero_le _, Nat.le_refl _, fun i _ hi => ?_, fun h => absurd h (by omega)⟩
    rw [hg i (by omega)]
    exact i1.all _ (by omega) (by omega)
  have hself : cutS (cutS s b e) 0 (cutS s b e).size = cutS s b e := by
    have h1 := cutS_size (cutS s b e) 0 (cutS s b e).size (by omega) (by omega) (by omega)
    refine txt_ext (by omega) fun i hi => ?_
    rw [cutS_get (cutS s b e) 0 (cutS s b e).size i (by omega) (by omega) (by omega) (by omega), Int.zero_add]
  unfold tokM at ht ⊢
  rw [hg0]
  split at ht
  · rename_i h1
    simp only [Prod.mk.injEq] at ht
    rw [if_pos h1, full innB ht.2.symm, ht.1]
  · rename_i h1
    rw [if_neg h1]
    split at ht
    · rename_i h2
      rw [if_pos h2]
      split at ht
      · rename_i h3
        simp only [Prod.mk.injEq] at ht
        have hf := full figB ht.2.symm
        rw [hf, show ((0 : Nat) : Int) = 0 from rfl, hself]
        rw [ht.2] at h3
        rw [if_pos h3, ht.1]
      · simp only [Prod.mk.injEq] at ht
        exact absurd ht.1.symm h0
    · rename_i h2
      rw [if_neg h2]
      split at ht
      · rename_i h3
        simp only [Prod.mk.injEq] at ht
        have h4 := hg 1 (by omega)
        rw [show ((b + 1 : Nat) : Int) = (b : Int) + 1 by omega] at h4
        rw [if_pos ⟨by omega, by rw [show (((0 : Nat) : Int) + 1) = ((1 : Nat) : Int) from rfl, h4]; exact h3.2.1, h3.2.2⟩, ht.1]
        rw [show 0 + 2 = (cutS s b e).size by omega]
      · split at ht
        · rename_i h3 h4
          simp only [Prod.mk.injEq] at ht
          rw [if_neg (fun h => by omega), if_pos h4, ht.1]
          rw [show 0 + 1 = (cutS s b e).size by omega]
        · simp only [Prod.mk.injEq] at ht
          exact absurd ht.1.symm h0
end Go.Proofs.YtklecijcpkolfaaDoor.Aw

/- Tokens out of the row's data; a text of blanks. -/
set_option linter.unusedVariables false
set_option linter.unusedSimpArgs false
set_option linter.unusedSectionVars false
namespace Go.Proofs.YtklecijcpkolfaaDoor.Aw
open Go Go.RowKit
set_option maxRecDepth 10000
theorem decTk {rows : List (List IC)} (h : ∀ r ∈ rows, Dec (.st [.int .i64, .str, .int .i64]) r) : ∃ l : List Tk, rows = hid real (List.map (encT real) l) ∧ FitT l := by
  induction rows with
  | nil => exact ⟨[], rfl, by simp [FitT]⟩
  | cons r rs ih =>
    obtain ⟨l, hl, hb⟩ := ih fun x hx => h x (List.mem_cons_of_mem _ hx)
    obtain ⟨a1, b1, rfl, ⟨k, rfl, _⟩, a2, b2, rfl, ⟨s, rfl, hs⟩, a3, b3, rfl, ⟨n, rfl, _⟩, rfl⟩ := h r List.mem_cons_self
    refine ⟨(k, s, n) :: l, by rw [hl]; rfl, fun x hx => ?_⟩
    rcases List.mem_cons.1 hx with rfl | hx
    · exact hs
    · exact hb x hx
theorem decToks {x : IC} (h : Dec (.sl 32 (.st [.int .i64, .str, .int .i64])) [x]) : ∃ l : List Tk, x = .sl 3 false (hid real (List.map (encT real) l)) ∧ FitT l := by
  obtain ⟨r, e, h1, h2⟩ := h
  obtain ⟨l, rfl, hl⟩ := decTk h1
  simp only [List.cons.injEq, and_true] at e
  exact ⟨l, e, hl⟩
theorem mkS_one (z : Int) : (mkS [z]).size = 1 := rfl
theorem mkS_get (z : Int) (h0 : 0 ≤ z) (h1 : z ≤ 255) : sb (mkS [z]) 0 = z := by
  show ((UInt8.ofNat z.toNat).toNat : Int) = z
  rw [UInt8.toNat_ofNat']
  omega
/-- The first blanks. -/
def ahdM : Nat → ByteArray
  | 0 => { data := #[] }
  | k + 1 => ahdM k ++ mkS [sb kBlk ((k % 3 : Nat) : Int)]
theorem ahd_size : ∀ k, (ahdM k).size = k
  | 0 => rfl
  | k + 1 => by rw [ahdM, ByteArray.size_append, ahd_size k, mkS_one]
theorem blk_at (k : Nat) : blkB (sb kBlk ((k % 3 : Nat) : Int)) = true := by
  have h : k % 3 < 3 := Nat.mod_lt _ (by omega)
  generalize k % 3 = j at h
  match j, h with
  | 0, _ => decide +kernel
  | 1, _ => decide +kernel
  | 2, _ => decide +kernel
theorem ahd_blk : ∀ k, Blk0 (ahdM k)
  | 0 => fun i hi => absurd hi (by rw [ahd_size]; omega)
  | k + 1 => fun i hi => by
    rw [ahd_size] at hi
    have e := ahd_size k
    rcases Nat.lt_or_ge i k with h | h
    · rw [ahdM, sb_left _ _ _ (by omega) (by omega)]
      exact ahd_blk k i (by omega)
    · rw [ahdM, sb_right _ _ _ (by omega), show (i : Int) - ((ahdM k).size : Int) = 0 by omega]
      have hr := sb_range kBlk ((k % 3 : Nat) : Int)
      rw [mkS_get _ hr.1 hr.2]
      exact blk_at k
theorem Scan.bad_lt {s : ByteArray} {a : Nat} {l : List Tk} {r : Option Nat} (h : Scan s a l r) : ∀ b, r = some b → b < s.size := by
  induction h with
  | done a ha h => intro b hb; cases hb
  | bad a b ha h hb h0 => intro b' hb'; cases hb'; exact hb
  | next a b e k l r ha h hb ht h0 hr ih => exact ih
theorem rng8 {n : Int} (h : (Lit.int .u8 n).wf = true) : 0 ≤ n ∧ n ≤ 255 := by
  simp only [Lit.wf, Bool.and_eq_true, decide_eq_true_eq] at h
  exact h
theorem rng32 {n : Int} (h : (Lit.int .u32 n).wf = true) : 0 ≤ n ∧ n ≤ 4294967295 := by
  simp only [Lit.wf, Bool.and_eq_true, decide_eq_true_eq] at h
  exact h
end Go.Proofs.YtklecijcpkolfaaDoor.Aw
