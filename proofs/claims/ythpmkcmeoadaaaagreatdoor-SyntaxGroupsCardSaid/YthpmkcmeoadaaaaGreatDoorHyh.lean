/- Cases. -/
import Derived.Test.YthpmkcmeoadaaaaGreatDoorHyd
open Go Go.Pe Go.Pe.HM
namespace Go.Proofs.YthpmkcmeoadaaaaGreatDoor
set_option maxRecDepth 1000000
set_option maxHeartbeats 4000000
set_option linter.unusedVariables false
theorem case30 (bb : Bool) (zz : Nat) (l : List Int) (p q : Nat) : okS bb zz l 3 0 p q = true := by kernel_rfl
theorem case31 (bb : Bool) (zz : Nat) (l : List Int) (p q : Nat) : okS bb zz l 3 1 p q = true := by kernel_rfl
theorem case32 (bb : Bool) (zz : Nat) (l : List Int) (p q : Nat) : okS bb zz l 3 2 p q = true := by kernel_rfl
theorem case33 (bb : Bool) (zz : Nat) (l : List Int) (p q : Nat) : okS bb zz l 3 3 p q = true := by kernel_rfl
theorem case34 (bb : Bool) (zz : Nat) (l : List Int) (p q : Nat) : okS bb zz l 3 4 p q = true := by kernel_rfl
theorem case35 (bb : Bool) (zz : Nat) (l : List Int) (p q : Nat) : okS bb zz l 3 5 p q = true := by kernel_rfl
end Go.Proofs.YthpmkcmeoadaaaaGreatDoor
