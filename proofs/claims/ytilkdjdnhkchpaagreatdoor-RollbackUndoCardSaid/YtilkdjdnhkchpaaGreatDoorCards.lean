/-
  DERIVED. GIVEN WITH THE SEED: THE CARDS: each row of YtilkdjdnhkchpaaGreatDoorRows.lean that lists a variable, with what it lists TIED to the program's text (the seventh form; the later family's looks); each row that meets fmt, with fmt's text TOLD by the authors' own Lean function (tested against real Go, not proved from fmt's source: count such statements apart). THE CARD IS WHAT COUNTS. Prove the row's statement (the work); the ties are given (YtilkdjdnhkchpaaGreatDoorTie.lean); close each card by the builder's one call (the guide's Derived/Test/ToyasCard.lean, 'card_holds'). Laid BY PROGRAM, IN A SANDBOX (cutbox-door.mjs). By AI agents, Wed Nov 11 2026. No macro, syntax, notation, axiom, sorry.
-/
import Derived.Test.YtilkdjdnhkchpaaGreatDoorRows
import GoSem.ClaimSeven
namespace Go.Proofs.YtilkdjdnhkchpaaGreatDoor
namespace Rows

/-- THE TIED CARD OF 'nameplanlaw40.RollbackUndo'. -/
def rollbackUndoCard : Claim7 := { stood := { row := rollbackUndoRow, standIns := [], harness := (true, "4b1950d8c3e91f61a0f98ae7f3d40090b7f2a1c133a40b30d3d577e37f1348fe"), looks := false }, kinds := [], alts := [], laidByText := true, laidKinds := [.data, .data, .data, .data], laidTests := true, laidLooks := .later }
def RollbackUndoCardSaid : Prop := Claim7.holds Tryz.pinned (.plain (OpenSpec.ofChange rollbackUndoSpec)) rollbackUndoCard

/-- THE SECOND FORM's CARD OF 'nameplanlaw40.RollbackUndo'. -/
def rollbackUndoUptoCard : Claim7 := { stood := { row := rollbackUndoUptoRow, standIns := [], harness := (true, "4b1950d8c3e91f61a0f98ae7f3d40090b7f2a1c133a40b30d3d577e37f1348fe"), looks := false }, kinds := [], alts := [], laidByText := true, laidKinds := [.data, .data, .data, .data], laidTests := true, laidLooks := .later }
def RollbackUndoUptoCardSaid : Prop := Claim7.holds Tryz.pinned (.plain (OpenSpec.upto rollbackUndoSpec)) rollbackUndoUptoCard
end Rows
end Go.Proofs.YtilkdjdnhkchpaaGreatDoor
