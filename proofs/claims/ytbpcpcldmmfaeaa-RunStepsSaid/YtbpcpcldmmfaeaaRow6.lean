/-
  PROVED: whatever list of numbers RunSteps is called with, it returns true, and each argument reads behind the call as it read before.
  Conditions: none beyond those of the given statement.
-/
import Derived.Test.YtbpcpcldmmfaeaaQru
import Derived.Test.YtbpcpcldmmfaeaaQrl
import Derived.Test.YtbpcpcldmmfaeaaRows
import Derived.WalkKit
import Derived.ProofKit
import Derived.OpenShut
import Derived.ChangeOld
import Derived.Below
import Derived.Carry
namespace Go.Proofs.Ytbpcpcldmmfaeaa
open Go Go.Pe Go.ChangeShapes Go.WideShapes Go.ChangeAt Go.RowKit
set_option linter.unusedVariables false
theorem own : ownKnob Try.prog.godebug = none := by kernel_rfl
theorem laidOut : laidOutB Try.prog = true := by kernel_rfl
theorem u4 : Try.prog.underlying 4 = some .bool := by kernel_rfl
theorem u23 : Try.prog.underlying 23 = some (.slice 3) := by kernel_rfl
theorem u3 : Try.prog.underlying 3 = some (.int .i64) := by kernel_rfl
theorem c3 : Try.prog.cellsOf 3 = 1 := by kernel_rfl
set_option maxRecDepth 100000 in
theorem lifted (os : Os) (started : os.Started) (H : Type) (enc : TypeId × Value → H) :
    ReturnsInHanded {} Try.checked os 6 .any (Rows.runStepsSpec.pre6 enc Try.prog Try.f6 Rows.runStepsRow.domain false) (Rows.runStepsSpec.post enc Try.prog Try.f6 false true false false) := by
  refine returnsInHanded_of_change (C := Try.checked) own started (by kernel_rfl) Try.func6
    (ChangeSpec.witness6 (enc := enc) (C := Try.checked) false ⟨#[], #[.slice none 0 0], []⟩ 8 (by kernel_rfl) (by kernel_rfl) (by kernel_rfl) (by kernel_rfl)) ?_
  intro W base args ds gs before hval0 hW hcnd _
  have hval : ∀ (j : Nat) t v, Try.f6.params[j]? = some t → args[j]? = some v → Value.okWide Try.prog W .any base t v := hval0
  have hW' := hW
  obtain ⟨p, q, hA0, hV, rfl, hfz, hnd⟩ := hW
  have hA : DataW.TrodAll enc Try.prog W 0 (fun _ => true) true Try.f6.params.toList args.toList ds p := hA0
  rw [Try.params6] at hA hval
  obtain ⟨v0, d0, rfl, rfl, h0⟩ := trodAll_one hA
  obtain ⟨rfl, rfl⟩ := trodVars_none hV
  have lt := hW'.lt
  have hv0 := hval 0 23 v0 rfl rfl
  have q0 : v0.cells.toList = [v0] := by
    cases v0 <;> first | rfl | (exfalso; simp [Value.okWide, Cell.okWide, Cell.ok] at hv0)
  obtain ⟨n0, e0⟩ := h0
  obtain ⟨x0, b0, z0, es0, k0, f0, g0, i0⟩ := fr_ints u23 u3 c3 e0
  rw [q0] at k0
  obtain rfl : v0 = x0 := by simpa using k0
  refine (calls_of (law6 ⟨g0, i0⟩) (VRs.cons (show VR (emb0 W) (.fl b0 z0 (ints es0)) v0 from f0) (VRs.nil))).mono fun e W' ⟨he, bel⟩ => ?_
  subst he
  have lt0 : ∀ x ∈ p, x.block < W.heap.size := fun x hx => lt x (by simp [hx])
  refine ⟨_, rfl, _, _, _, [], _, [], hW', trodAll_mk1 (shut_bool u4 _), trodAll_mk1 (Below.trod laidOut (by kernel_rfl) (of_decide_eq_true (by kernel_rfl)) ⟨n0, e0⟩ bel lt0), rfl, bel.frame _, fun h => by cases h⟩
theorem over : Rows.runStepsRow.holds Try.pinned (OpenSpec.ofChange Rows.runStepsSpec) :=
  OpenClaim.holds_of_wide 6 Try.f6 rfl rfl rfl rfl rfl rfl rfl ⟨rfl, rfl, rfl, rfl, rfl⟩ rfl rfl rfl rfl rfl (by kernel_rfl) Try.func6 (by kernel_rfl)
    (of_decide_eq_true (by kernel_rfl)) (by unfold Func.isWrapper; first | (rw [if_pos (by decide +kernel)]; kernel_rfl) | (rw [if_neg (by decide +kernel)]; exact ⟨rfl, rfl⟩))
    (fun os started H enc _ => lifted os started H enc)
theorem runSteps_holds : Rows.RunStepsSaid := over
#print axioms runSteps_holds
end Go.Proofs.Ytbpcpcldmmfaeaa
