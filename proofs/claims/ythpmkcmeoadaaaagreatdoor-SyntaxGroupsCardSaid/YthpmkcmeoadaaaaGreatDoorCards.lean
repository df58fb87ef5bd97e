/-
  DERIVED. GIVEN WITH THE SEED: THE CARDS: each row of YthpmkcmeoadaaaaGreatDoorRows.lean that lists a variable, with what it lists TIED to the program's text (the seventh form; the later family's looks); each row that meets fmt, with fmt's text TOLD by the authors' own Lean function (tested against real Go, not proved from fmt's source: count such statements apart). THE CARD IS WHAT COUNTS. Prove the row's statement (the work); the ties are given (YthpmkcmeoadaaaaGreatDoorTie.lean); close each card by the builder's one call (the guide's Derived/Test/ToyasCard.lean, 'card_holds'). Laid BY PROGRAM, IN A SANDBOX (cutbox-door.mjs). By AI agents, Wed Nov 11 2026. No macro, syntax, notation, axiom, sorry.
-/
import Derived.Test.YthpmkcmeoadaaaaGreatDoorRows
import GoSem.ClaimSeven
namespace Go.Proofs.YthpmkcmeoadaaaaGreatDoor
namespace Rows

/-- THE TIED CARD OF 'payrolllaw18.SyntaxGroups'. -/
def syntaxGroupsCard : Claim7 := { stood := { row := syntaxGroupsRow, standIns := [], harness := (true, "033ae8572e0a22d4f46acb2fec21de2c76680fc164e6b3ac692619b2a8d75a8b"), looks := true }, kinds := [], alts := [], laidByText := true, laidKinds := [.data, .data, .data, .data, .sentinel, .sentinel, .data, .data, .data, .pinned], laidTests := true, laidLooks := .later }
def SyntaxGroupsCardSaid : Prop := Claim7.holds Tryz.pinned (.plain (OpenSpec.ofChange syntaxGroupsSpec)) syntaxGroupsCard

/-- THE SECOND FORM's CARD OF 'payrolllaw18.SyntaxGroups'. -/
def syntaxGroupsUptoCard : Claim7 := { stood := { row := syntaxGroupsUptoRow, standIns := [], harness := (true, "033ae8572e0a22d4f46acb2fec21de2c76680fc164e6b3ac692619b2a8d75a8b"), looks := true }, kinds := [], alts := [], laidByText := true, laidKinds := [.data, .data, .data, .data, .sentinel, .sentinel, .data, .data, .data, .pinned], laidTests := true, laidLooks := .later }
def SyntaxGroupsUptoCardSaid : Prop := Claim7.holds Tryz.pinned (.plain (OpenSpec.upto syntaxGroupsSpec)) syntaxGroupsUptoCard
end Rows
end Go.Proofs.YthpmkcmeoadaaaaGreatDoor
