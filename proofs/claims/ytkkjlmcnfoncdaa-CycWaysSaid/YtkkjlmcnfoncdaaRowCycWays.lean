/- The given row of tammy/tammylaw13.CycWays (a way begins and ends where it should, each step is to one that is next, none twice, and it is no longer than it may be; with one step more it is the same, if there is one) is proved: for every input that the row's form reads, the law returns true, and each argument reads behind the call as it read before. -/
import Derived.Test.YtkkjlmcnfoncdaaRows
import Derived.Test.YtkkjlmcnfoncdaaCCe
import Derived.WalkKit
import Derived.ProofKit
import Derived.OpenShut
import Derived.ChangeOld
import Derived.Below
import Derived.SizedLaws
import Derived.KernelRfl
namespace Go.Proofs.Ytkkjlmcnfoncdaa.CycWaysP
open Go.ChangeShapes Go.WideShapes Go.ChangeAt Go.RowKit Go.Proofs.Ytkkjlmcnfoncdaa.Aw
set_option linter.unusedVariables false
theorem own : ownKnob Try.prog.godebug = none := by kernel_rfl
theorem laidOut : laidOutB Try.prog = true := by kernel_rfl
set_option maxRecDepth 100000 in
theorem lifted (os : Os) (started : os.Started) (H : Type) (enc : TypeId × Value → H) :
    ReturnsInHanded {} Try.checked os 5 .any (Rows.cycWaysSpec.pre6 enc Try.prog Try.f5 Rows.cycWaysRow.domain false) (Rows.cycWaysSpec.post enc Try.prog Try.f5 false true false false) := by
  refine returnsInHanded_of_change_sized (C := Try.checked) own started (by kernel_rfl) Try.func5
    (ChangeSpec.witness6 (enc := enc) (C := Try.checked) false ⟨#[], #[.agg #[.slice none 0 0, .slice none 0 0, .slice none 0 0, .slice none 0 0, .slice none 0 0, .slice none 0 0, .slice none 0 0, .slice none 0 0, .slice none 0 0, .int .i64 0, .int .i64 0, .int .u8 0]], []⟩ 8 (by kernel_rfl) (by kernel_rfl) (by kernel_rfl) (by kernel_rfl)) ?_
  intro W base args ds gs before hval0 hW hcnd hsz0 _
  have hsz : (DataW.weightsEach Try.prog (Try.f5.params.toList ++ Rows.cycWaysSpec.plain.varTypes Try.prog) (ds ++ gs)).all (· ≤ reachBytes) = true := hsz0
  have hval : ∀ (j : Nat) t v, Try.f5.params[j]? = some t → args[j]? = some v → Value.okWide Try.prog W .any base t v := hval0
  have hW' := hW
  obtain ⟨p, q, hA0, hV, rfl, hfz, hnd⟩ := hW
  have hA : DataW.TrodAll enc Try.prog W 0 (fun _ => true) true Try.f5.params.toList args.toList ds p := hA0
  rw [Try.params5] at hA hval hsz
  obtain ⟨v0, vs0, d0, ds0, p0, q0, hargs, rfl, rfl, h0, r0⟩ := trodAll_cons hA
  obtain ⟨rfl, rfl, rfl⟩ := trodAll_nil r0
  obtain rfl : args = #[v0] := by cases args; simp_all
  obtain ⟨rfl, rfl⟩ := trodVars_none hV
  have lt0 : ∀ x ∈ p0, x.block < W.heap.size := by obtain ⟨m, hm⟩ := h0; exact DataW.trod_lt m _ _ _ hm
  have w0 : (d0.weights Try.prog 45).all (· ≤ reachBytes) = true := List.all_eq_true.2 fun n hn => List.all_eq_true.1 hsz n (DataW.weights_mem_each (j := 0) rfl rfl n hn)
  obtain ⟨i0, e0, a0⟩ := argSt shWays Try.underlying45 (by kernel_rfl) (hval 0 _ v0 rfl rfl) h0 w0
  obtain ⟨l0, k0, s0, c0, b0, n0, m0, t0, u0, x0, y0, z0, rfl, f0, g0, j0, o0⟩ := decWays e0
  clear hA0 hval0 hsz0 hsz
  refine ((cwaysL (A := real) rfl l0 f0 k0 s0 g0 c0 b0 n0 m0 t0 u0 j0 x0 y0 z0 o0).2 (below W) W #[v0] rfl (fun k x hk => ?_)).mono ?_
  · match k, hk with
    | 0, hk => obtain rfl := Option.some.inj hk; exact a0
  rintro e W' ⟨u, rfl, hu, bel⟩
  obtain rfl := pr_true hu
  exact ⟨_, rfl, _, _, _, [], _, [], hW', trodAll_mk1 (shut_bool Try.underlying4 _), (trodAll_cons_mk (Below.trod laidOut (by kernel_rfl) (of_decide_eq_true (by kernel_rfl)) h0 bel lt0) trodAll_mk0), rfl, bel.frame _, fun h => by cases h⟩
theorem over : Rows.cycWaysRow.holds Try.pinned (OpenSpec.ofChange Rows.cycWaysSpec) :=
  OpenClaim.holds_of_wide 5 Try.f5 rfl rfl rfl rfl rfl rfl rfl ⟨rfl, rfl, rfl, rfl, rfl⟩ rfl rfl rfl rfl rfl (by kernel_rfl) Try.func5 (by kernel_rfl)
    (of_decide_eq_true (by kernel_rfl)) (by unfold Func.isWrapper; first | (rw [if_pos (by decide +kernel)]; kernel_rfl) | (rw [if_neg (by decide +kernel)]; exact ⟨rfl, rfl⟩))
    (fun os started H enc _ => lifted os started H enc)
theorem proved : Rows.CycWaysSaid := over
#print axioms proved
end Go.Proofs.Ytkkjlmcnfoncdaa.CycWaysP
namespace Go.Proofs.Ytkkjlmcnfoncdaa
/-- The row, under a short name, for the claim. -/
theorem cycWays_holds : Rows.CycWaysSaid := CycWaysP.proved
end Go.Proofs.Ytkkjlmcnfoncdaa

