/- Cases. -/
import Derived.Test.YthpmkcmeoadaaaaGreatDoorHyd
open Go Go.Pe Go.Pe.HM
namespace Go.Proofs.YthpmkcmeoadaaaaGreatDoor
set_option maxRecDepth 1000000
set_option maxHeartbeats 4000000
set_option linter.unusedVariables false
theorem case00 (bb : Bool) (zz : Nat) (l : List Int) (p q : Nat) : okS bb zz l 0 0 p q = true := by kernel_rfl
theorem case01 (bb : Bool) (zz : Nat) (l : List Int) (p q : Nat) : okS bb zz l 0 1 p q = true := by kernel_rfl
theorem case02 (bb : Bool) (zz : Nat) (l : List Int) (p q : Nat) : okS bb zz l 0 2 p q = true := by kernel_rfl
theorem case03 (bb : Bool) (zz : Nat) (l : List Int) (p q : Nat) : okS bb zz l 0 3 p q = true := by kernel_rfl
theorem case04 (bb : Bool) (zz : Nat) (l : List Int) (p q : Nat) : okS bb zz l 0 4 p q = true := by kernel_rfl
theorem case05 (bb : Bool) (zz : Nat) (l : List Int) (p q : Nat) : okS bb zz l 0 5 p q = true := by kernel_rfl
end Go.Proofs.YthpmkcmeoadaaaaGreatDoor
