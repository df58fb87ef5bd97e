/- Cases. -/
import Derived.Test.YthpmkcmeoadaaaaGreatDoorHyd
open Go Go.Pe Go.Pe.HM
namespace Go.Proofs.YthpmkcmeoadaaaaGreatDoor
set_option maxRecDepth 1000000
set_option maxHeartbeats 4000000
set_option linter.unusedVariables false
theorem case40 (bb : Bool) (zz : Nat) (l : List Int) (p q : Nat) : okS bb zz l 4 0 p q = true := by kernel_rfl
theorem case41 (bb : Bool) (zz : Nat) (l : List Int) (p q : Nat) : okS bb zz l 4 1 p q = true := by kernel_rfl
theorem case42 (bb : Bool) (zz : Nat) (l : List Int) (p q : Nat) : okS bb zz l 4 2 p q = true := by kernel_rfl
theorem case43 (bb : Bool) (zz : Nat) (l : List Int) (p q : Nat) : okS bb zz l 4 3 p q = true := by kernel_rfl
theorem case44 (bb : Bool) (zz : Nat) (l : List Int) (p q : Nat) : okS bb zz l 4 4 p q = true := by kernel_rfl
theorem case45 (bb : Bool) (zz : Nat) (l : List Int) (p q : Nat) : okS bb zz l 4 5 p q = true := by kernel_rfl
end Go.Proofs.YthpmkcmeoadaaaaGreatDoor
