/- The second function that is called with nothing. -/
import Derived.Test.YtbpcpcldmmfaeaaQrh
open Go Go.Pe Go.Pe.HM
namespace Go.Proofs.Ytbpcpcldmmfaeaa
set_option maxRecDepth 100000
set_option maxHeartbeats 4000000
set_option linter.unusedVariables false
noncomputable def KW : Cx := ⟨Try.prog, .e, fun f => Nat.beq f 12, fun _ => none⟩
theorem runW (h : H) : callX KW 40 12 [] h = some (.b true, h) := by kernel_rfl
theorem namesW : Try.prog.funcs.toList.all (fun fn => !(fn.name == "runtime.NumGoroutine")) = true := by kernel_rfl
theorem nameW (f : Nat) (fn : Func) (e : Try.prog.funcs[f]? = some fn) : fn.name ≠ "runtime.NumGoroutine" := by
  have h := List.all_eq_true.1 namesW fn (by
    obtain ⟨hi, rfl⟩ := Array.getElem?_eq_some_iff.1 e
    simp)
  intro hn
  rw [hn] at h
  simp at h
theorem simW : ∀ n, CallSim KW.G KW.P (callX KW n) := sim_callX KW OvSim.none nameW
theorem ovR : OvSim KR := fun f v e => by
  have hf : f = 12 ∧ v = .b true := by
    simp only [KR] at e
    cases hb : Nat.beq f 12 with
    | false => rw [hb] at e; cases e
    | true =>
      rw [hb] at e
      exact ⟨Nat.eq_of_beq_eq_true hb, (Option.some.inj e).symm⟩
  obtain ⟨rfl, rfl⟩ := hf
  refine ⟨(simW 40 12 [] ⟨1024, .e⟩ _ _ (runW _)).1, fun h ρ w hr => ?_⟩
  exact (simW 40 12 [] h _ _ (runW h)).2 ρ w [] hr rfl
theorem simR : ∀ n, CallSim KR.G KR.P (callX KR n) := sim_callX KR ovR nameW
end Go.Proofs.Ytbpcpcldmmfaeaa
