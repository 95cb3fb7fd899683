/-
  DERIVED. GIVEN WITH THE SEED: THE CARDS: each row of YthfacindpgoedaaGreatDoorRows.lean that lists a variable, with what it lists TIED to the program's text (the seventh form; the later family's looks); each row that meets fmt, with fmt's text TOLD by the authors' own Lean function (tested against real Go, not proved from fmt's source: count such statements apart). THE CARD IS WHAT COUNTS. Prove the row's statement (the work); the ties are given (YthfacindpgoedaaGreatDoorTie.lean); close each card by the builder's one call (the guide's Derived/Test/ToyasCard.lean, 'card_holds'). Laid BY PROGRAM, IN A SANDBOX (cutbox-door.mjs). By AI agents, Wed Nov 11 2026. No macro, syntax, notation, axiom, sorry.
-/
import Derived.Test.YthfacindpgoedaaGreatDoorRows
import GoSem.ClaimSeven
namespace Go.Proofs.YthfacindpgoedaaGreatDoor
namespace Rows

/-- THE TIED CARD OF 'pithlaw23.ChangeNets'. -/
def changeNetsCard : Claim7 := { stood := { row := changeNetsRow, standIns := [], harness := (true, "c1e865f6c1c3edaa62f2f06fc5085bcf53a060fc6b6fccd1aaf8957e717053c2"), looks := true }, kinds := [], alts := [], laidByText := true, laidKinds := [.data, .data, .data, .data, .data, .sentinel, .sentinel, .widerDeep, .pinned], laidTests := true, laidLooks := .later }
def ChangeNetsCardSaid : Prop := Claim7.holds Tryz.pinned (.plain (OpenSpec.ofChange changeNetsSpec)) changeNetsCard

/-- THE SECOND FORM's CARD OF 'pithlaw23.ChangeNets'. -/
def changeNetsUptoCard : Claim7 := { stood := { row := changeNetsUptoRow, standIns := [], harness := (true, "c1e865f6c1c3edaa62f2f06fc5085bcf53a060fc6b6fccd1aaf8957e717053c2"), looks := true }, kinds := [], alts := [], laidByText := true, laidKinds := [.data, .data, .data, .data, .data, .sentinel, .sentinel, .widerDeep, .pinned], laidTests := true, laidLooks := .later }
def ChangeNetsUptoCardSaid : Prop := Claim7.holds Tryz.pinned (.plain (OpenSpec.upto changeNetsSpec)) changeNetsUptoCard
end Rows
end Go.Proofs.YthfacindpgoedaaGreatDoor
