/- What is left behind the draws. -/
import Derived.Test.YthpmkcmeoadaaaaGreatDoorHya
open Go Go.Pe Go.Pe.HM
namespace Go.Proofs.YthpmkcmeoadaaaaGreatDoor
set_option maxRecDepth 1000000
set_option maxHeartbeats 4000000
set_option linter.unusedVariables false
def tailC : Code → Code
  | .seq _ b => b
  | c => c
noncomputable def restS : Code := tailC (tailC (tailC (tailC (tailC (Tryz.f3.body.getD .skip)))))
def tmS (bb : Bool) (zz : Nat) (l : List Int) (a b : Int) : T PV := T.set (PV.i .i64 b) (T.set (PV.i .i64 a) (T.set (PV.i .i64 b) (T.set (PV.p 1031 0) (T.set (PV.i .i64 a) (T.set (PV.p 1031 0) (T.set (PV.sl 1035 0 6 1 true) (T.set (PV.sl 1035 0 6 1 true) (T.set (PV.sl 1033 0 6 1 true) (T.set (PV.sl 1033 0 6 1 true) (T.set (PV.p 1031 0) (T.set (PV.p 1031 0) (T.set (PV.fl bb zz (ints l)) (T.set (PV.b false) (T.set (PV.fl bb zz (ints l)) T.e 0) 2) 16) 17) 3) 18) 4) 19) 5) 20) 21) 22) 23) 6) 7
noncomputable def hS (bb : Bool) (zz : Nat) (l : List Int) (p q : Nat) : H := ⟨1043, T.set (PO.cells [PV.fl bb zz (ints l), PV.i .i64 (q : Int)] true) (T.set (PO.cells [PV.fl bb zz (ints l), PV.i .i64 (p : Int)] true) (T.set (PO.cells [PV.i .i64 0, PV.i .i64 1, PV.i .i64 2, PV.i .i64 2, PV.i .i64 3, PV.i .i64 3] true) (T.set (PO.cells [PV.s (List.map UInt8.toNat [111, 114]), PV.s (List.map UInt8.toNat [97, 110, 100]), PV.s (List.map UInt8.toNat [43]), PV.s (List.map UInt8.toNat [45]), PV.s (List.map UInt8.toNat [42]), PV.s (List.map UInt8.toNat [47])] true) (T.set (PO.cells [PV.fl bb zz (ints l), PV.i .i64 0] true) GS 1031) 1033) 1035) 1031) 1031⟩
noncomputable def okS (bb : Bool) (zz : Nat) (l : List Int) (a b : Int) (p q : Nat) : Bool := endsT Tryz.prog [.tmp 2] ((codeF Tryz.prog 101 3000 restS).run (callK KS 3000 100) (tmS bb zz l a b) (hS bb zz l p q))
end Go.Proofs.YthpmkcmeoadaaaaGreatDoor
