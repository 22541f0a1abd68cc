/-
  DERIVED. GIVEN WITH THE SEED: THE CARDS: each row of YthedjffolgeomaaGreatDoorRows.lean that lists a variable, with what it lists TIED to the program's text (the seventh form; the later family's looks); each row that meets fmt, with fmt's text TOLD by the authors' own Lean function (tested against real Go, not proved from fmt's source: count such statements apart). THE CARD IS WHAT COUNTS. Prove the row's statement (the work); the ties are given (YthedjffolgeomaaGreatDoorTie.lean); close each card by the builder's one call (the guide's Derived/Test/ToyasCard.lean, 'card_holds'). Laid BY PROGRAM, IN A SANDBOX (cutbox-door.mjs). By AI agents, Wed Nov 11 2026. No macro, syntax, notation, axiom, sorry.
-/
import Derived.Test.YthedjffolgeomaaGreatDoorRows
import GoSem.ClaimSeven
namespace Go.Proofs.YthedjffolgeomaaGreatDoor
namespace Rows

/-- THE TIED CARD OF 'nameplanlaw38.WaitsMoments'. -/
def waitsMomentsCard : Claim7 := { stood := { row := waitsMomentsRow, standIns := [], harness := (true, "f900c9062af7a0b380609bb771cd60bb0f426c0455daace22d766d7b067d8054"), looks := false }, kinds := [], alts := [], laidByText := true, laidKinds := [.data, .data, .data, .data], laidTests := true, laidLooks := .later }
def WaitsMomentsCardSaid : Prop := Claim7.holds Tryz.pinned (.plain (OpenSpec.ofChange waitsMomentsSpec)) waitsMomentsCard

/-- THE TIED CARD OF 'nameplanlaw38.WaitsAlone'. -/
def waitsAloneCard : Claim7 := { stood := { row := waitsAloneRow, standIns := [], harness := (true, "f900c9062af7a0b380609bb771cd60bb0f426c0455daace22d766d7b067d8054"), looks := false }, kinds := [], alts := [], laidByText := true, laidKinds := [.data, .data, .data, .data], laidTests := true, laidLooks := .later }
def WaitsAloneCardSaid : Prop := Claim7.holds Tryz.pinned (.plain (OpenSpec.ofChange waitsAloneSpec)) waitsAloneCard

/-- THE SECOND FORM's CARD OF 'nameplanlaw38.WaitsMoments'. -/
def waitsMomentsUptoCard : Claim7 := { stood := { row := waitsMomentsUptoRow, standIns := [], harness := (true, "f900c9062af7a0b380609bb771cd60bb0f426c0455daace22d766d7b067d8054"), looks := false }, kinds := [], alts := [], laidByText := true, laidKinds := [.data, .data, .data, .data], laidTests := true, laidLooks := .later }
def WaitsMomentsUptoCardSaid : Prop := Claim7.holds Tryz.pinned (.plain (OpenSpec.upto waitsMomentsSpec)) waitsMomentsUptoCard

/-- THE SECOND FORM's CARD OF 'nameplanlaw38.WaitsAlone'. -/
def waitsAloneUptoCard : Claim7 := { stood := { row := waitsAloneUptoRow, standIns := [], harness := (true, "f900c9062af7a0b380609bb771cd60bb0f426c0455daace22d766d7b067d8054"), looks := false }, kinds := [], alts := [], laidByText := true, laidKinds := [.data, .data, .data, .data], laidTests := true, laidLooks := .later }
def WaitsAloneUptoCardSaid : Prop := Claim7.holds Tryz.pinned (.plain (OpenSpec.upto waitsAloneSpec)) waitsAloneUptoCard
end Rows
end Go.Proofs.YthedjffolgeomaaGreatDoor
