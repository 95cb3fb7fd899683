/- The statement ExtractNames (its tied card): for every two whole numbers the law's call answers true, that is, the document's example goes as it says and every name is the document's. Conditions: the package variables that the row lists hold at the start what the program's text lays in them (the card ties them); no other. -/
import Derived.Test.YthdompljhpeimaaGreatDoorWalk
import Derived.Test.YthdompljhpeimaaGreatDoorFacts
section
namespace Go.Proofs.YthdompljhpeimaaGreatDoor
open Go.ChangeShapes Go.WideShapes Go.ChangeAt Go.RowKit Go.Am

theorem hnamed : Tryz.prog.funcNamed "pith/pithlaw21.ExtractNames" = some 3 := by kernel_rfl
theorem holds : Rows.ExtractNamesSaid :=
  OpenClaim.holds_of_wide 3 Tryz.f3 rfl rfl rfl rfl rfl rfl rfl ⟨rfl, rfl, rfl, rfl, rfl⟩ rfl rfl rfl rfl rfl hnamed Tryz.func3 namfacts
    (of_decide_eq_true (by kernel_rfl)) (by unfold Func.isWrapper; first | (rw [if_pos (by decide +kernel)]; kernel_rfl) | (rw [if_neg (by decide +kernel)]; exact ⟨rfl, rfl⟩))
    (fun os started H enc _ => lifted os started H enc)

/-- **THE TIED CARD**: whatever two numbers: every name is the document's. -/
theorem card_holds : Rows.ExtractNamesCardSaid :=
  Claim7.holds_tied_plain_at .later [] [.data, .data, .data, .data, .data, .sentinel, .sentinel, .widerDeep, .pinned] true (true, "aca749a0eb41893a52edc97f443d56c2f5074e8346af0ab0b7d459c5de3b99a5") true holds (fun _ h => by cases h) (by kernel_rfl) (fun _ h => by cases h) extractNames_row_tie rfl ⟨rfl, rfl⟩ (by kernel_rfl) rfl
    (fun f fn hf hfn => by
      obtain rfl : f = 3 := Option.some.inj ((show Tryz.prog.funcNamed "pith/pithlaw21.ExtractNames" = some 3 by kernel_rfl).symm.trans hf) |>.symm
      obtain rfl : fn = Tryz.f3 := (Option.some.inj (Tryz.func3.symm.trans hfn)).symm
      exact ⟨by kernel_rfl, fun j t ht => by
        rw [Tryz.params3] at ht
        have hm : t ∈ [3, 3] := by simpa using Array.mem_of_getElem? ht
        have hall : ([3, 3].all fun u => !Tryz.prog.wantsStandIn u) = true := by kernel_rfl
        exact (show Tryz.prog.wantsStandIn t = false by simpa using List.all_eq_true.1 hall t hm)⟩)
    (by kernel_rfl)
#print axioms card_holds
end Go.Proofs.YthdompljhpeimaaGreatDoor
end
