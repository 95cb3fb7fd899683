/-
  DERIVED. GIVEN WITH THE SEED: THE CARDS: each row of YtepncpggenncoaaGreatDoorRows.lean that lists a variable, with what it lists TIED to the program's text (the seventh form; the later family's looks); each row that meets fmt, with fmt's text TOLD by the authors' own Lean function (tested against real Go, not proved from fmt's source: count such statements apart). THE CARD IS WHAT COUNTS. Prove the row's statement (the work); the ties are given (YtepncpggenncoaaGreatDoorTie.lean); close each card by the builder's one call (the guide's Derived/Test/ToyasCard.lean, 'card_holds'). Laid BY PROGRAM, IN A SANDBOX (cutbox-door.mjs). By AI agents, Wed Nov 11 2026. No macro, syntax, notation, axiom, sorry.
-/
import Derived.Test.YtepncpggenncoaaGreatDoorRows
import GoSem.ClaimSeven
namespace Go.Proofs.YtepncpggenncoaaGreatDoor
namespace Rows

/-- THE TIED CARD OF 'pithlaw19.DecompCore'. -/
def decompCoreCard : Claim7 := { stood := { row := decompCoreRow, standIns := [], harness := (true, "cbd1de9fb91ec8626ca0c40348e98a0fc33aa1b1dff2c0eb952abbe51537077d"), looks := true }, kinds := [], alts := [], laidByText := true, laidKinds := [.data, .data, .data, .data, .data, .sentinel, .sentinel, .widerDeep, .pinned], laidTests := true, laidLooks := .later }
def DecompCoreCardSaid : Prop := Claim7.holds Tryz.pinned (.plain (OpenSpec.ofChange decompCoreSpec)) decompCoreCard

/-- THE SECOND FORM's CARD OF 'pithlaw19.DecompCore'. -/
def decompCoreUptoCard : Claim7 := { stood := { row := decompCoreUptoRow, standIns := [], harness := (true, "cbd1de9fb91ec8626ca0c40348e98a0fc33aa1b1dff2c0eb952abbe51537077d"), looks := true }, kinds := [], alts := [], laidByText := true, laidKinds := [.data, .data, .data, .data, .data, .sentinel, .sentinel, .widerDeep, .pinned], laidTests := true, laidLooks := .later }
def DecompCoreUptoCardSaid : Prop := Claim7.holds Tryz.pinned (.plain (OpenSpec.upto decompCoreSpec)) decompCoreUptoCard
end Rows
end Go.Proofs.YtepncpggenncoaaGreatDoor
