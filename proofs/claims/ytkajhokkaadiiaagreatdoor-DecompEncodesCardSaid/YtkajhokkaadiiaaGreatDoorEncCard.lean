/- The statement DecompEncodes (its tied card): for every generation, every list of numbers and every place and number to turn, the law's call answers true, that is, the document's example goes as it says, every Name and every Encode is the document's, and the numbers stay, asked twice over the same memory. Conditions: the package variables that the row lists hold at the start what the program's text lays in them (the card ties them); no other. -/
import Derived.Test.YtkajhokkaadiiaaGreatDoorEncLift
import Derived.Test.YtkajhokkaadiiaaGreatDoorEncFacts
section
namespace Go.Proofs.YtkajhokkaadiiaaGreatDoor
open Go.ChangeShapes Go.WideShapes Go.ChangeAt Go.RowKit Go.Am

theorem hnamed : Tryz.prog.funcNamed "pith/pithlaw19.DecompEncodes" = some 3 := by kernel_rfl
theorem holds : Rows.DecompEncodesSaid :=
  OpenClaim.holds_of_wide 3 Tryz.f3 rfl rfl rfl rfl rfl rfl rfl ⟨rfl, rfl, rfl, rfl, rfl⟩ rfl rfl rfl rfl rfl hnamed Tryz.func3 encfacts
    (of_decide_eq_true (by kernel_rfl)) (by unfold Func.isWrapper; first | (rw [if_pos (by decide +kernel)]; kernel_rfl) | (rw [if_neg (by decide +kernel)]; exact ⟨rfl, rfl⟩))
    (fun os started H enc _ => lifted os started H enc)

/-- **THE TIED CARD**: whatever numbers: Name and Encode are the document's, asked twice over the same memory. -/
theorem card_holds : Rows.DecompEncodesCardSaid :=
  Claim7.holds_tied_plain_at .later [] [.data, .data, .data, .data, .data, .sentinel, .sentinel, .widerDeep, .pinned] true (true, "a70a36b895890f7236631c61849b78d73b35bc4f3c0d2ed5b4d8991547b1d448") true holds (fun _ h => by cases h) (by kernel_rfl) (fun _ h => by cases h) decompEncodes_row_tie rfl ⟨rfl, rfl⟩ (by kernel_rfl) rfl
    (fun f fn hf hfn => by
      obtain rfl : f = 3 := Option.some.inj (hnamed.symm.trans hf) |>.symm
      obtain rfl : fn = Tryz.f3 := (Option.some.inj (Tryz.func3.symm.trans hfn)).symm
      exact ⟨by kernel_rfl, fun j t ht => by
        rw [Tryz.params3] at ht
        have hm : t ∈ [3, 22, 3, 3] := by simpa using Array.mem_of_getElem? ht
        have hall : ([3, 22, 3, 3].all fun u => !Tryz.prog.wantsStandIn u) = true := by kernel_rfl
        exact (show Tryz.prog.wantsStandIn t = false by simpa using List.all_eq_true.1 hall t hm)⟩)
    (by kernel_rfl)
#print axioms card_holds
end Go.Proofs.YtkajhokkaadiiaaGreatDoor
end
