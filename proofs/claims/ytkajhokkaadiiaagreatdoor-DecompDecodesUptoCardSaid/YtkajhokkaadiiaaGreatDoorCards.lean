/-
  DERIVED. GIVEN WITH THE SEED: THE CARDS: each row of YtkajhokkaadiiaaGreatDoorRows.lean that lists a variable, with what it lists TIED to the program's text (the seventh form; the later family's looks); each row that meets fmt, with fmt's text TOLD by the authors' own Lean function (tested against real Go, not proved from fmt's source: count such statements apart). THE CARD IS WHAT COUNTS. Prove the row's statement (the work); the ties are given (YtkajhokkaadiiaaGreatDoorTie.lean); close each card by the builder's one call (the guide's Derived/Test/ToyasCard.lean, 'card_holds'). Laid BY PROGRAM, IN A SANDBOX (cutbox-door.mjs). By AI agents, Wed Nov 11 2026. No macro, syntax, notation, axiom, sorry.
-/
import Derived.Test.YtkajhokkaadiiaaGreatDoorRows
import GoSem.ClaimSeven
namespace Go.Proofs.YtkajhokkaadiiaaGreatDoor
namespace Rows

/-- THE TIED CARD OF 'pithlaw19.DecompEncodes'. -/
def decompEncodesCard : Claim7 := { stood := { row := decompEncodesRow, standIns := [], harness := (true, "a70a36b895890f7236631c61849b78d73b35bc4f3c0d2ed5b4d8991547b1d448"), looks := true }, kinds := [], alts := [], laidByText := true, laidKinds := [.data, .data, .data, .data, .data, .sentinel, .sentinel, .widerDeep, .pinned], laidTests := true, laidLooks := .later }
def DecompEncodesCardSaid : Prop := Claim7.holds Tryz.pinned (.plain (OpenSpec.ofChange decompEncodesSpec)) decompEncodesCard

/-- THE TIED CARD OF 'pithlaw19.DecompDecodes'. -/
def decompDecodesCard : Claim7 := { stood := { row := decompDecodesRow, standIns := [], harness := (true, "a70a36b895890f7236631c61849b78d73b35bc4f3c0d2ed5b4d8991547b1d448"), looks := true }, kinds := [], alts := [], laidByText := true, laidKinds := [.data, .data, .data, .data, .data, .sentinel, .sentinel, .widerDeep, .pinned], laidTests := true, laidLooks := .later }
def DecompDecodesCardSaid : Prop := Claim7.holds Tryz.pinned (.plain (OpenSpec.ofChange decompDecodesSpec)) decompDecodesCard

/-- THE TIED CARD OF 'pithlaw19.DecompBack'. -/
def decompBackCard : Claim7 := { stood := { row := decompBackRow, standIns := [], harness := (true, "a70a36b895890f7236631c61849b78d73b35bc4f3c0d2ed5b4d8991547b1d448"), looks := true }, kinds := [], alts := [], laidByText := true, laidKinds := [.data, .data, .data, .data, .data, .sentinel, .sentinel, .widerDeep, .pinned], laidTests := true, laidLooks := .later }
def DecompBackCardSaid : Prop := Claim7.holds Tryz.pinned (.plain (OpenSpec.ofChange decompBackSpec)) decompBackCard

/-- THE SECOND FORM's CARD OF 'pithlaw19.DecompEncodes'. -/
def decompEncodesUptoCard : Claim7 := { stood := { row := decompEncodesUptoRow, standIns := [], harness := (true, "a70a36b895890f7236631c61849b78d73b35bc4f3c0d2ed5b4d8991547b1d448"), looks := true }, kinds := [], alts := [], laidByText := true, laidKinds := [.data, .data, .data, .data, .data, .sentinel, .sentinel, .widerDeep, .pinned], laidTests := true, laidLooks := .later }
def DecompEncodesUptoCardSaid : Prop := Claim7.holds Tryz.pinned (.plain (OpenSpec.upto decompEncodesSpec)) decompEncodesUptoCard

/-- THE SECOND FORM's CARD OF 'pithlaw19.DecompDecodes'. -/
def decompDecodesUptoCard : Claim7 := { stood := { row := decompDecodesUptoRow, standIns := [], harness := (true, "a70a36b895890f7236631c61849b78d73b35bc4f3c0d2ed5b4d8991547b1d448"), looks := true }, kinds := [], alts := [], laidByText := true, laidKinds := [.data, .data, .data, .data, .data, .sentinel, .sentinel, .widerDeep, .pinned], laidTests := true, laidLooks := .later }
def DecompDecodesUptoCardSaid : Prop := Claim7.holds Tryz.pinned (.plain (OpenSpec.upto decompDecodesSpec)) decompDecodesUptoCard

/-- THE SECOND FORM's CARD OF 'pithlaw19.DecompBack'. -/
def decompBackUptoCard : Claim7 := { stood := { row := decompBackUptoRow, standIns := [], harness := (true, "a70a36b895890f7236631c61849b78d73b35bc4f3c0d2ed5b4d8991547b1d448"), looks := true }, kinds := [], alts := [], laidByText := true, laidKinds := [.data, .data, .data, .data, .data, .sentinel, .sentinel, .widerDeep, .pinned], laidTests := true, laidLooks := .later }
def DecompBackUptoCardSaid : Prop := Claim7.holds Tryz.pinned (.plain (OpenSpec.upto decompBackSpec)) decompBackUptoCard
end Rows
end Go.Proofs.YtkajhokkaadiiaaGreatDoor
