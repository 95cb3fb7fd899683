/-
  DERIVED. GIVEN WITH THE SEED: THE CARDS: each row of YthdompljhpeimaaGreatDoorRows.lean that lists a variable, with what it lists TIED to the program's text (the seventh form; the later family's looks); each row that meets fmt, with fmt's text TOLD by the authors' own Lean function (tested against real Go, not proved from fmt's source: count such statements apart). THE CARD IS WHAT COUNTS. Prove the row's statement (the work); the ties are given (YthdompljhpeimaaGreatDoorTie.lean); close each card by the builder's one call (the guide's Derived/Test/ToyasCard.lean, 'card_holds'). Laid BY PROGRAM, IN A SANDBOX (cutbox-door.mjs). By AI agents, Wed Nov 11 2026. No macro, syntax, notation, axiom, sorry.
-/
import Derived.Test.YthdompljhpeimaaGreatDoorRows
import GoSem.ClaimSeven
namespace Go.Proofs.YthdompljhpeimaaGreatDoor
namespace Rows

/-- THE TIED CARD OF 'pithlaw21.ExtractNames'. -/
def extractNamesCard : Claim7 := { stood := { row := extractNamesRow, standIns := [], harness := (true, "aca749a0eb41893a52edc97f443d56c2f5074e8346af0ab0b7d459c5de3b99a5"), looks := true }, kinds := [], alts := [], laidByText := true, laidKinds := [.data, .data, .data, .data, .data, .sentinel, .sentinel, .widerDeep, .pinned], laidTests := true, laidLooks := .later }
def ExtractNamesCardSaid : Prop := Claim7.holds Tryz.pinned (.plain (OpenSpec.ofChange extractNamesSpec)) extractNamesCard

/-- THE SECOND FORM's CARD OF 'pithlaw21.ExtractNames'. -/
def extractNamesUptoCard : Claim7 := { stood := { row := extractNamesUptoRow, standIns := [], harness := (true, "aca749a0eb41893a52edc97f443d56c2f5074e8346af0ab0b7d459c5de3b99a5"), looks := true }, kinds := [], alts := [], laidByText := true, laidKinds := [.data, .data, .data, .data, .data, .sentinel, .sentinel, .widerDeep, .pinned], laidTests := true, laidLooks := .later }
def ExtractNamesUptoCardSaid : Prop := Claim7.holds Tryz.pinned (.plain (OpenSpec.upto extractNamesSpec)) extractNamesUptoCard
end Rows
end Go.Proofs.YthdompljhpeimaaGreatDoor
