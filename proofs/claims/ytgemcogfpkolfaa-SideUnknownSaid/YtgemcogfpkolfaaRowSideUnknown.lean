/- The given row of tammy/tammylaw08.SideUnknown (without constructors each Con and Proj is told to be unknown, the first one first) is proved: for every input that the row's form reads, the law returns true, and each argument reads behind the call as it read before. -/
import Derived.Test.YtgemcogfpkolfaaRows
import Derived.Test.YtgemcogfpkolfaaSAf
import Derived.WalkKit
import Derived.ProofKit
import Derived.OpenShut
import Derived.ChangeOld
import Derived.Below
import Derived.SizedLaws
import Derived.KernelRfl
namespace Go.Proofs.Ytgemcogfpkolfaa.SideUnknownP
open Go.ChangeShapes Go.WideShapes Go.ChangeAt Go.RowKit Go.Proofs.Ytgemcogfpkolfaa.Aw
set_option linter.unusedVariables false
theorem own : ownKnob Try.prog.godebug = none := by kernel_rfl
theorem laidOut : laidOutB Try.prog = true := by kernel_rfl
set_option maxRecDepth 100000 in
theorem lifted (os : Os) (started : os.Started) (H : Type) (enc : TypeId × Value → H) :
    ReturnsInHanded {} Try.checked os 9 .any (Rows.sideUnknownSpec.pre6 enc Try.prog Try.f9 Rows.sideUnknownRow.domain false) (Rows.sideUnknownSpec.post enc Try.prog Try.f9 false true false false) := by
  refine returnsInHanded_of_change_sized (C := Try.checked) own started (by kernel_rfl) Try.func9
    (ChangeSpec.witness6 (enc := enc) (C := Try.checked) false ⟨#[], #[.slice none 0 0, .int .u8 0], []⟩ 8 (by kernel_rfl) (by kernel_rfl) (by kernel_rfl) (by kernel_rfl)) ?_
  intro W base args ds gs before hval0 hW hcnd hsz0 _
  have hsz : (DataW.weightsEach Try.prog (Try.f9.params.toList ++ Rows.sideUnknownSpec.plain.varTypes Try.prog) (ds ++ gs)).all (· ≤ reachBytes) = true := hsz0
  have hval : ∀ (j : Nat) t v, Try.f9.params[j]? = some t → args[j]? = some v → Value.okWide Try.prog W .any base t v := hval0
  have hW' := hW
  obtain ⟨p, q, hA0, hV, rfl, hfz, hnd⟩ := hW
  have hA : DataW.TrodAll enc Try.prog W 0 (fun _ => true) true Try.f9.params.toList args.toList ds p := hA0
  rw [Try.params9] at hA hval hsz
  obtain ⟨v0, vs0, d0, ds0, p0, q0, hargs, rfl, rfl, h0, r0⟩ := trodAll_cons hA
  obtain ⟨v1, vs1, d1, ds1, p1, q1, rfl, rfl, rfl, h1, r1⟩ := trodAll_cons r0
  obtain ⟨rfl, rfl, rfl⟩ := trodAll_nil r1
  obtain rfl : args = #[v0, v1] := by cases args; simp_all
  obtain ⟨rfl, rfl⟩ := trodVars_none hV
  have lt0 : ∀ x ∈ p0, x.block < W.heap.size := by obtain ⟨m, hm⟩ := h0; exact DataW.trod_lt m _ _ _ hm
  have w0 : (d0.weights Try.prog 23).all (· ≤ reachBytes) = true := List.all_eq_true.2 fun n hn => List.all_eq_true.1 hsz n (DataW.weights_mem_each (j := 0) rfl rfl n hn)
  obtain ⟨i0, e0, a0⟩ := argSl 32 (.st [.int .i64, .str, .int .i64]) Try.underlying23 (by kernel_rfl) (hval 0 _ v0 rfl rfl) h0 w0
  obtain ⟨n0, rfl, g0⟩ := decNodes e0
  obtain ⟨a1, rfl, rfl, rfl, w1⟩ := open_int Try.underlying5 (hval 1 _ v1 rfl rfl) h1
  clear hA0 hval0 hsz0 hsz
  refine ((unknownL (A := real) rfl n0 g0 a1).2 (below W) W #[v0, .int .u8 a1] rfl (fun k x hk => ?_)).mono ?_
  · match k, hk with
    | 0, hk => obtain rfl := Option.some.inj hk; exact a0
    | 1, hk => obtain rfl := Option.some.inj hk; exact argInt _ _
  rintro e W' ⟨u, rfl, hu, bel⟩
  obtain rfl := pr_true hu
  exact ⟨_, rfl, _, _, _, [], _, [], hW', trodAll_mk1 (shut_bool Try.underlying4 _), (trodAll_cons_mk (Below.trod laidOut (by kernel_rfl) (of_decide_eq_true (by kernel_rfl)) h0 bel lt0) (trodAll_cons_mk (shut_int Try.underlying5 w1) trodAll_mk0)), rfl, bel.frame _, fun h => by cases h⟩
theorem over : Rows.sideUnknownRow.holds Try.pinned (OpenSpec.ofChange Rows.sideUnknownSpec) :=
  OpenClaim.holds_of_wide 9 Try.f9 rfl rfl rfl rfl rfl rfl rfl ⟨rfl, rfl, rfl, rfl, rfl⟩ rfl rfl rfl rfl rfl (by kernel_rfl) Try.func9 (by kernel_rfl)
    (of_decide_eq_true (by kernel_rfl)) (by unfold Func.isWrapper; first | (rw [if_pos (by decide +kernel)]; kernel_rfl) | (rw [if_neg (by decide +kernel)]; exact ⟨rfl, rfl⟩))
    (fun os started H enc _ => lifted os started H enc)
theorem proved : Rows.SideUnknownSaid := over
#print axioms proved
end Go.Proofs.Ytgemcogfpkolfaa.SideUnknownP
namespace Go.Proofs.Ytgemcogfpkolfaa
/-- The row, under a short name, for the claim. -/
theorem sideUnknown_holds : Rows.SideUnknownSaid := SideUnknownP.proved
end Go.Proofs.Ytgemcogfpkolfaa

