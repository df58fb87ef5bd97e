/- Cases. -/
import Derived.Test.YthpmkcmeoadaaaaGreatDoorHyd
open Go Go.Pe Go.Pe.HM
namespace Go.Proofs.YthpmkcmeoadaaaaGreatDoor
set_option maxRecDepth 1000000
set_option maxHeartbeats 4000000
set_option linter.unusedVariables false
theorem case20 (bb : Bool) (zz : Nat) (l : List Int) (p q : Nat) : okS bb zz l 2 0 p q = true := by kernel_rfl
theorem case21 (bb : Bool) (zz : Nat) (l : List Int) (p q : Nat) : okS bb zz l 2 1 p q = true := by kernel_rfl
theorem case22 (bb : Bool) (zz : Nat) (l : List Int) (p q : Nat) : okS bb zz l 2 2 p q = true := by kernel_rfl
theorem case23 (bb : Bool) (zz : Nat) (l : List Int) (p q : Nat) : okS bb zz l 2 3 p q = true := by kernel_rfl
theorem case24 (bb : Bool) (zz : Nat) (l : List Int) (p q : Nat) : okS bb zz l 2 4 p q = true := by kernel_rfl
theorem case25 (bb : Bool) (zz : Nat) (l : List Int) (p q : Nat) : okS bb zz l 2 5 p q = true := by kernel_rfl
end Go.Proofs.YthpmkcmeoadaaaaGreatDoor
