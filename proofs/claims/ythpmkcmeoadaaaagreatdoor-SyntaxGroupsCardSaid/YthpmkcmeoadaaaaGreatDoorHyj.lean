/- Cases. -/
import Derived.Test.YthpmkcmeoadaaaaGreatDoorHyd
open Go Go.Pe Go.Pe.HM
namespace Go.Proofs.YthpmkcmeoadaaaaGreatDoor
set_option maxRecDepth 1000000
set_option maxHeartbeats 4000000
set_option linter.unusedVariables false
theorem case50 (bb : Bool) (zz : Nat) (l : List Int) (p q : Nat) : okS bb zz l 5 0 p q = true := by kernel_rfl
theorem case51 (bb : Bool) (zz : Nat) (l : List Int) (p q : Nat) : okS bb zz l 5 1 p q = true := by kernel_rfl
theorem case52 (bb : Bool) (zz : Nat) (l : List Int) (p q : Nat) : okS bb zz l 5 2 p q = true := by kernel_rfl
theorem case53 (bb : Bool) (zz : Nat) (l : List Int) (p q : Nat) : okS bb zz l 5 3 p q = true := by kernel_rfl
theorem case54 (bb : Bool) (zz : Nat) (l : List Int) (p q : Nat) : okS bb zz l 5 4 p q = true := by kernel_rfl
theorem case55 (bb : Bool) (zz : Nat) (l : List Int) (p q : Nat) : okS bb zz l 5 5 p q = true := by kernel_rfl
end Go.Proofs.YthpmkcmeoadaaaaGreatDoor
