/- The statement ChangeMerges (its tied card): for every vertex, every list of neighbours and every list of changes, the law's call answers true, that is, the document's example goes as it says, Merge of the three is the document's, and what was handed in stays. Conditions: the package variables that the row lists hold at the start what the program's text lays in them (the card ties them); no other. -/
import Derived.Test.YtpphacngohhmhaaGreatDoorMergesLift
import Derived.Test.YtpphacngohhmhaaGreatDoorMergesFacts
set_option linter.unusedSimpArgs false
set_option linter.unusedVariables false
section
namespace Go.Proofs.YtpphacngohhmhaaGreatDoor
open Go.ChangeShapes Go.WideShapes Go.ChangeAt Go.RowKit Go.Am

theorem hnamed : Tryz.prog.funcNamed "pith/pithlaw23.ChangeMerges" = some 3 := by kernel_rfl
theorem holds : Rows.ChangeMergesSaid :=
  OpenClaim.holds_of_wide 3 Tryz.f3 rfl rfl rfl rfl rfl rfl rfl ⟨rfl, rfl, rfl, rfl, rfl⟩ rfl rfl rfl rfl rfl hnamed Tryz.func3 mergesfacts
    (of_decide_eq_true (by kernel_rfl)) (by unfold Func.isWrapper; first | (rw [if_pos (by decide +kernel)]; kernel_rfl) | (rw [if_neg (by decide +kernel)]; exact ⟨rfl, rfl⟩))
    (fun os started H enc _ => lifted os started H enc)

/-- **THE TIED CARD**: Merge of any vertex, any list, any changes is the document's; what is handed in stays. -/
theorem card_holds : Rows.ChangeMergesCardSaid :=
  Claim7.holds_tied_plain_at .later [] [.data, .data, .data, .data, .data, .sentinel, .sentinel, .widerDeep, .pinned] true (true, "f29866a68a9bdd9f4e513ff4369f78c474a32d6b14fcf81724632762adad5dae") true holds (fun _ h => by cases h) (by kernel_rfl) (fun _ h => by cases h) changeMerges_row_tie rfl ⟨rfl, rfl⟩ (by kernel_rfl) rfl
    (fun f fn hf hfn => by
      obtain rfl : f = 3 := Option.some.inj (hnamed.symm.trans hf) |>.symm
      obtain rfl : fn = Tryz.f3 := (Option.some.inj (Tryz.func3.symm.trans hfn)).symm
      exact ⟨by kernel_rfl, fun j t ht => by
        rw [Tryz.params3] at ht
        have hm : t ∈ [3, 22, 23] := by simpa using Array.mem_of_getElem? ht
        have hall : ([3, 22, 23].all fun u => !Tryz.prog.wantsStandIn u) = true := by kernel_rfl
        exact (show Tryz.prog.wantsStandIn t = false by simpa using List.all_eq_true.1 hall t hm)⟩)
    (by kernel_rfl)
#print axioms card_holds
end Go.Proofs.YtpphacngohhmhaaGreatDoor
end
