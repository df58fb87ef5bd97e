/- The check of the chapter's examples, run by the kernel. -/
import Derived.Test.YthpmkcmeoadaaaaGreatDoorHya
open Go Go.Pe Go.Pe.HM
namespace Go.Proofs.YthpmkcmeoadaaaaGreatDoor
set_option maxRecDepth 1000000
set_option maxHeartbeats 4000000
set_option linter.unusedVariables false
theorem saneQ : isT (callK KW 3000 100 9 [] ⟨1024, GS⟩) = true := by kernel_rfl
theorem namesV : Tryz.prog.funcs.toList.all (fun fn => !(fn.name == "runtime.NumGoroutine")) = true := by kernel_rfl
theorem nameV (f : Nat) (fn : Func) (e : Tryz.prog.funcs[f]? = some fn) : fn.name ≠ "runtime.NumGoroutine" := by
  have h := List.all_eq_true.1 namesV fn (by
    obtain ⟨hi, rfl⟩ := Array.getElem?_eq_some_iff.1 e
    simp)
  intro hn
  rw [hn] at h
  simp at h
theorem ovS : OvSim KS := fun f v e => by
  have hf : f = 9 ∧ v = .b true := by
    simp only [KS] at e
    cases hb : Nat.beq f 9 with
    | false => rw [hb] at e; cases e
    | true =>
      rw [hb] at e
      exact ⟨Nat.eq_of_beq_eq_true hb, (Option.some.inj e).symm⟩
  obtain ⟨rfl, rfl⟩ := hf
  obtain ⟨h', e1⟩ := isT_some saneQ
  exact ov_pure (K := KW) (n := 3099) OvSim.none nameV Tryz.func9 rfl rfl (callK_some (K := KW) (F := 3000) (n := 100) e1)
theorem simS : ∀ n, CallSim KS.G KS.P (callX KS n) := sim_callX KS ovS nameV
end Go.Proofs.YthpmkcmeoadaaaaGreatDoor
