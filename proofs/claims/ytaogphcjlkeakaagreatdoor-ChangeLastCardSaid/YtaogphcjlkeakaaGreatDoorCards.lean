/-
  DERIVED. GIVEN WITH THE SEED: THE CARDS: each row of YtaogphcjlkeakaaGreatDoorRows.lean that lists a variable, with what it lists TIED to the program's text (the seventh form; the later family's looks); each row that meets fmt, with fmt's text TOLD by the authors' own Lean function (tested against real Go, not proved from fmt's source: count such statements apart). THE CARD IS WHAT COUNTS. Prove the row's statement (the work); the ties are given (YtaogphcjlkeakaaGreatDoorTie.lean); close each card by the builder's one call (the guide's Derived/Test/ToyasCard.lean, 'card_holds'). Laid BY PROGRAM, IN A SANDBOX (cutbox-door.mjs). By AI agents, Wed Nov 11 2026. No macro, syntax, notation, axiom, sorry.
-/
import Derived.Test.YtaogphcjlkeakaaGreatDoorRows
import GoSem.ClaimSeven
namespace Go.Proofs.YtaogphcjlkeakaaGreatDoor
namespace Rows

/-- THE TIED CARD OF 'pithlaw23.ChangeLast'. -/
def changeLastCard : Claim7 := { stood := { row := changeLastRow, standIns := [], harness := (true, "8c151f5b9113e5d28c522710743d8ad603da11e5c5f24fb2482ef91835ee0bb3"), looks := true }, kinds := [], alts := [], laidByText := true, laidKinds := [.data, .data, .data, .data, .data, .sentinel, .sentinel, .widerDeep, .pinned], laidTests := true, laidLooks := .later }
def ChangeLastCardSaid : Prop := Claim7.holds Tryz.pinned (.plain (OpenSpec.ofChange changeLastSpec)) changeLastCard

/-- THE SECOND FORM's CARD OF 'pithlaw23.ChangeLast'. -/
def changeLastUptoCard : Claim7 := { stood := { row := changeLastUptoRow, standIns := [], harness := (true, "8c151f5b9113e5d28c522710743d8ad603da11e5c5f24fb2482ef91835ee0bb3"), looks := true }, kinds := [], alts := [], laidByText := true, laidKinds := [.data, .data, .data, .data, .data, .sentinel, .sentinel, .widerDeep, .pinned], laidTests := true, laidLooks := .later }
def ChangeLastUptoCardSaid : Prop := Claim7.holds Tryz.pinned (.plain (OpenSpec.upto changeLastSpec)) changeLastUptoCard
end Rows
end Go.Proofs.YtaogphcjlkeakaaGreatDoor
