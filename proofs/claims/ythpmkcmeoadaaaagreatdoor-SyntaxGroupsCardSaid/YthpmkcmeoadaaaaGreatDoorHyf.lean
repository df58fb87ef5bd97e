/- Cases. -/
import Derived.Test.YthpmkcmeoadaaaaGreatDoorHyd
open Go Go.Pe Go.Pe.HM
namespace Go.Proofs.YthpmkcmeoadaaaaGreatDoor
set_option maxRecDepth 1000000
set_option maxHeartbeats 4000000
set_option linter.unusedVariables false
theorem case10 (bb : Bool) (zz : Nat) (l : List Int) (p q : Nat) : okS bb zz l 1 0 p q = true := by kernel_rfl
theorem case11 (bb : Bool) (zz : Nat) (l : List Int) (p q : Nat) : okS bb zz l 1 1 p q = true := by kernel_rfl
theorem case12 (bb : Bool) (zz : Nat) (l : List Int) (p q : Nat) : okS bb zz l 1 2 p q = true := by kernel_rfl
theorem case13 (bb : Bool) (zz : Nat) (l : List Int) (p q : Nat) : okS bb zz l 1 3 p q = true := by kernel_rfl
theorem case14 (bb : Bool) (zz : Nat) (l : List Int) (p q : Nat) : okS bb zz l 1 4 p q = true := by kernel_rfl
theorem case15 (bb : Bool) (zz : Nat) (l : List Int) (p q : Nat) : okS bb zz l 1 5 p q = true := by kernel_rfl
end Go.Proofs.YthpmkcmeoadaaaaGreatDoor
