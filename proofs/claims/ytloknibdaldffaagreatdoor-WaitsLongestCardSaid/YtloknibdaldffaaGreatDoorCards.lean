/-
  DERIVED. GIVEN WITH THE SEED: THE CARDS: each row of YtloknibdaldffaaGreatDoorRows.lean that lists a variable, with what it lists TIED to the program's text (the seventh form; the later family's looks); each row that meets fmt, with fmt's text TOLD by the authors' own Lean function (tested against real Go, not proved from fmt's source: count such statements apart). THE CARD IS WHAT COUNTS. Prove the row's statement (the work); the ties are given (YtloknibdaldffaaGreatDoorTie.lean); close each card by the builder's one call (the guide's Derived/Test/ToyasCard.lean, 'card_holds'). Laid BY PROGRAM, IN A SANDBOX (cutbox-door.mjs). By AI agents, Wed Nov 11 2026. No macro, syntax, notation, axiom, sorry.
-/
import Derived.Test.YtloknibdaldffaaGreatDoorRows
import GoSem.ClaimSeven
namespace Go.Proofs.YtloknibdaldffaaGreatDoor
namespace Rows

/-- THE TIED CARD OF 'nameplanlaw38.WaitsLongest'. -/
def waitsLongestCard : Claim7 := { stood := { row := waitsLongestRow, standIns := [], harness := (true, "2d6c843e2570317de6a365ff78e2da02195126c14acb8a9a7b8f0751213392c9"), looks := false }, kinds := [], alts := [], laidByText := true, laidKinds := [.data, .data, .data, .data], laidTests := true, laidLooks := .later }
def WaitsLongestCardSaid : Prop := Claim7.holds Tryz.pinned (.plain (OpenSpec.ofChange waitsLongestSpec)) waitsLongestCard

/-- THE SECOND FORM's CARD OF 'nameplanlaw38.WaitsLongest'. -/
def waitsLongestUptoCard : Claim7 := { stood := { row := waitsLongestUptoRow, standIns := [], harness := (true, "2d6c843e2570317de6a365ff78e2da02195126c14acb8a9a7b8f0751213392c9"), looks := false }, kinds := [], alts := [], laidByText := true, laidKinds := [.data, .data, .data, .data], laidTests := true, laidLooks := .later }
def WaitsLongestUptoCardSaid : Prop := Claim7.holds Tryz.pinned (.plain (OpenSpec.upto waitsLongestSpec)) waitsLongestUptoCard
end Rows
end Go.Proofs.YtloknibdaldffaaGreatDoor
