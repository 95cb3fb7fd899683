/-
  DERIVED. GIVEN WITH THE SEED: THE CARDS: each row of YtpphacngohhmhaaGreatDoorRows.lean that lists a variable, with what it lists TIED to the program's text (the seventh form; the later family's looks); each row that meets fmt, with fmt's text TOLD by the authors' own Lean function (tested against real Go, not proved from fmt's source: count such statements apart). THE CARD IS WHAT COUNTS. Prove the row's statement (the work); the ties are given (YtpphacngohhmhaaGreatDoorTie.lean); close each card by the builder's one call (the guide's Derived/Test/ToyasCard.lean, 'card_holds'). Laid BY PROGRAM, IN A SANDBOX (cutbox-door.mjs). By AI agents, Wed Nov 11 2026. No macro, syntax, notation, axiom, sorry.
-/
import Derived.Test.YtpphacngohhmhaaGreatDoorRows
import GoSem.ClaimSeven
namespace Go.Proofs.YtpphacngohhmhaaGreatDoor
namespace Rows

/-- THE TIED CARD OF 'pithlaw23.ChangeMerges'. -/
def changeMergesCard : Claim7 := { stood := { row := changeMergesRow, standIns := [], harness := (true, "f29866a68a9bdd9f4e513ff4369f78c474a32d6b14fcf81724632762adad5dae"), looks := true }, kinds := [], alts := [], laidByText := true, laidKinds := [.data, .data, .data, .data, .data, .sentinel, .sentinel, .widerDeep, .pinned], laidTests := true, laidLooks := .later }
def ChangeMergesCardSaid : Prop := Claim7.holds Tryz.pinned (.plain (OpenSpec.ofChange changeMergesSpec)) changeMergesCard

/-- THE SECOND FORM's CARD OF 'pithlaw23.ChangeMerges'. -/
def changeMergesUptoCard : Claim7 := { stood := { row := changeMergesUptoRow, standIns := [], harness := (true, "f29866a68a9bdd9f4e513ff4369f78c474a32d6b14fcf81724632762adad5dae"), looks := true }, kinds := [], alts := [], laidByText := true, laidKinds := [.data, .data, .data, .data, .data, .sentinel, .sentinel, .widerDeep, .pinned], laidTests := true, laidLooks := .later }
def ChangeMergesUptoCardSaid : Prop := Claim7.holds Tryz.pinned (.plain (OpenSpec.upto changeMergesSpec)) changeMergesUptoCard
end Rows
end Go.Proofs.YtpphacngohhmhaaGreatDoor
