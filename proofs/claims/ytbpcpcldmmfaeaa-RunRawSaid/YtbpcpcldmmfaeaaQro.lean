/-
  PROVED: whatever run, command and list of commands RunRaw is called with, it returns true, and each argument reads behind the call as it read before.
  Conditions: none beyond those of the given statement.
-/
import Derived.Test.YtbpcpcldmmfaeaaQrn
import Derived.Test.YtbpcpcldmmfaeaaRows
import Derived.WalkKit
import Derived.ProofKit
import Derived.OpenShut
import Derived.ChangeOld
import Derived.Below
import Derived.Carry
namespace Go.Proofs.Ytbpcpcldmmfaeaa
open Go Go.Pe Go.ChangeShapes Go.WideShapes Go.ChangeAt Go.RowKit
set_option linter.unusedVariables false
theorem own : ownKnob Try.prog.godebug = none := by kernel_rfl
theorem laidOut : laidOutB Try.prog = true := by kernel_rfl
theorem u4 : Try.prog.underlying 4 = some .bool := by kernel_rfl
set_option maxRecDepth 100000 in
theorem raw_lifted (os : Os) (started : os.Started) (H : Type) (enc : TypeId × Value → H) :
    ReturnsInHanded {} Try.checked os 7 .any (Rows.runRawSpec.pre6 enc Try.prog Try.f7 Rows.runRawRow.domain false) (Rows.runRawSpec.post enc Try.prog Try.f7 false true false false) := by
  refine returnsInHanded_of_change (C := Try.checked) own started (by kernel_rfl) Try.func7
    (ChangeSpec.witness6 (enc := enc) (C := Try.checked) false ⟨#[], #[.agg #[.int .i64 0, .slice none 0 0, .int .i64 0, .int .i64 0, .int .i64 0], .agg #[.int .i64 0, .slice none 0 0, .int .i64 0, .int .i64 0, .int .i64 0], .slice none 0 0], []⟩ 8 (by kernel_rfl) (by kernel_rfl) (by kernel_rfl) (by kernel_rfl)) ?_
  intro W base args ds gs before hval0 hW hcnd _
  have hval : ∀ (j : Nat) t v, Try.f7.params[j]? = some t → args[j]? = some v → Value.okWide Try.prog W .any base t v := hval0
  have hW' := hW
  obtain ⟨p, q, hA0, hV, rfl, hfz, hnd⟩ := hW
  have hA : DataW.TrodAll enc Try.prog W 0 (fun _ => true) true Try.f7.params.toList args.toList ds p := hA0
  rw [Try.params7] at hA hval
  obtain ⟨v0, v1, v2, d0, d1, d2, p0, p1, p2, rfl, rfl, rfl, h0, h1, h2⟩ := trodAll_three hA
  obtain ⟨rfl, rfl⟩ := trodVars_none hV
  have lt := hW'.lt
  obtain ⟨c0, rfl, _⟩ := okWide_struct u27 (hval 0 27 v0 rfl rfl)
  obtain ⟨c1, rfl, _⟩ := okWide_struct u32 (hval 1 32 v1 rfl rfl)
  have hv2 := hval 2 36 v2 rfl rfl
  have q2 : v2.cells.toList = [v2] := by
    cases v2 <;> first | rfl | (exfalso; simp [Value.okWide, Cell.okWide, Cell.ok] at hv2)
  obtain ⟨n0, e0⟩ := h0
  obtain ⟨n1, e1⟩ := h1
  obtain ⟨n2, e2⟩ := h2
  obtain ⟨st, u, b, z, es, c, s, k, k0, f0, g0, i0⟩ := open_five u27 c27 e0
  obtain ⟨st', u', b', z', es', c', s', k', k1, f1, g1, i1⟩ := open_five u32 c32 e1
  obtain ⟨v, bb, zz, l, k2, f2, g2, i2⟩ := fr_cmds e2
  rw [q2] at k2
  obtain rfl : v2 = v := by simpa using k2
  have hl : VRs (emb0 W) [.agg [.i .i64 st, .fl b z (ints es), .i .i64 c, .i .i64 s, .i .i64 k], .agg [.i .i64 st', .fl b' z' (ints es'), .i .i64 c', .i .i64 s', .i .i64 k'], .fl bb zz (cmds l)] [.agg c0, .agg c1, v2] := by
    have r0 : c0 = (c0.toList).toArray := by simp
    have r1 : c1 = (c1.toList).toArray := by simp
    have k0' : c0.toList = _ := k0
    have k1' : c1.toList = _ := k1
    simp only [VRs, VR]
    refine ⟨_, _, rfl, ⟨c0.toList, by rw [← r0], ?_⟩, _, _, rfl, ⟨c1.toList, by rw [← r1], ?_⟩, _, _, rfl, f2, rfl⟩
    · rw [k0']
      exact ⟨_, _, rfl, rfl, _, _, rfl, f0, _, _, rfl, rfl, _, _, rfl, rfl, _, _, rfl, rfl, rfl⟩
    · rw [k1']
      exact ⟨_, _, rfl, rfl, _, _, rfl, f1, _, _, rfl, rfl, _, _, rfl, rfl, _, _, rfl, rfl, rfl⟩
  refine (calls_of (law7all st b z es c s k st' b' z' es' c' s' k' bb zz l g0 i0 g1 i1 g2 i2) hl).mono fun e W' ⟨he, bel⟩ => ?_
  subst he
  have lt0 : ∀ x ∈ p0, x.block < W.heap.size := fun x hx => lt x (by simp [hx])
  have lt1 : ∀ x ∈ p1, x.block < W.heap.size := fun x hx => lt x (by simp [hx])
  have lt2 : ∀ x ∈ p2, x.block < W.heap.size := fun x hx => lt x (by simp [hx])
  refine ⟨_, rfl, _, _, _, [], _, [], hW', trodAll_mk1 (shut_bool u4 _), trodAll_mk3 (Below.trod laidOut (by kernel_rfl) (of_decide_eq_true (by kernel_rfl)) ⟨n0, e0⟩ bel lt0) (Below.trod laidOut (by kernel_rfl) (of_decide_eq_true (by kernel_rfl)) ⟨n1, e1⟩ bel lt1) (Below.trod laidOut (by kernel_rfl) (of_decide_eq_true (by kernel_rfl)) ⟨n2, e2⟩ bel lt2), rfl, bel.frame _, fun h => by cases h⟩
theorem raw_over : Rows.runRawRow.holds Try.pinned (OpenSpec.ofChange Rows.runRawSpec) :=
  OpenClaim.holds_of_wide 7 Try.f7 rfl rfl rfl rfl rfl rfl rfl ⟨rfl, rfl, rfl, rfl, rfl⟩ rfl rfl rfl rfl rfl (by kernel_rfl) Try.func7 (by kernel_rfl)
    (of_decide_eq_true (by kernel_rfl)) (by unfold Func.isWrapper; first | (rw [if_pos (by decide +kernel)]; kernel_rfl) | (rw [if_neg (by decide +kernel)]; exact ⟨rfl, rfl⟩))
    (fun os started H enc _ => raw_lifted os started H enc)
theorem runRaw_holds : Rows.RunRawSaid := raw_over
#print axioms runRaw_holds
end Go.Proofs.Ytbpcpcldmmfaeaa
