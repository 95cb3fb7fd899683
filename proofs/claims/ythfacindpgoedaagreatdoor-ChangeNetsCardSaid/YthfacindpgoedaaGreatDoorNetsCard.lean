/- The statement ChangeNets (its tied card): for every list of changes, every number and every change, the law's call answers true, that is, the document's example goes as it says, Net of the changes is the document's, and so it is again over the same memory with one of them turned, and what was handed in stays. Conditions: the package variables that the row lists hold at the start what the program's text lays in them (the card ties them); no other. -/
import Derived.Test.YthfacindpgoedaaGreatDoorNetsLift
import Derived.Test.YthfacindpgoedaaGreatDoorNetsFacts
set_option linter.unusedSimpArgs false
set_option linter.unusedVariables false
section
namespace Go.Proofs.YthfacindpgoedaaGreatDoor
open Go.ChangeShapes Go.WideShapes Go.ChangeAt Go.RowKit Go.Am

theorem hnamed : Tryz.prog.funcNamed "pith/pithlaw23.ChangeNets" = some 3 := by kernel_rfl
theorem holds : Rows.ChangeNetsSaid :=
  OpenClaim.holds_of_wide 3 Tryz.f3 rfl rfl rfl rfl rfl rfl rfl ⟨rfl, rfl, rfl, rfl, rfl⟩ rfl rfl rfl rfl rfl hnamed Tryz.func3 netsfacts
    (of_decide_eq_true (by kernel_rfl)) (by unfold Func.isWrapper; first | (rw [if_pos (by decide +kernel)]; kernel_rfl) | (rw [if_neg (by decide +kernel)]; exact ⟨rfl, rfl⟩))
    (fun os started H enc _ => lifted os started H enc)

/-- **THE TIED CARD**: Net of any changes is the document's; and again over the same memory, one of them turned. -/
theorem card_holds : Rows.ChangeNetsCardSaid :=
  Claim7.holds_tied_plain_at .later [] [.data, .data, .data, .data, .data, .sentinel, .sentinel, .widerDeep, .pinned] true (true, "c1e865f6c1c3edaa62f2f06fc5085bcf53a060fc6b6fccd1aaf8957e717053c2") true holds (fun _ h => by cases h) (by kernel_rfl) (fun _ h => by cases h) changeNets_row_tie rfl ⟨rfl, rfl⟩ (by kernel_rfl) rfl
    (fun f fn hf hfn => by
      obtain rfl : f = 3 := Option.some.inj (hnamed.symm.trans hf) |>.symm
      obtain rfl : fn = Tryz.f3 := (Option.some.inj (Tryz.func3.symm.trans hfn)).symm
      exact ⟨by kernel_rfl, fun j t ht => by
        rw [Tryz.params3] at ht
        have hm : t ∈ [22, 3, 24] := by simpa using Array.mem_of_getElem? ht
        have hall : ([22, 3, 24].all fun u => !Tryz.prog.wantsStandIn u) = true := by kernel_rfl
        exact (show Tryz.prog.wantsStandIn t = false by simpa using List.all_eq_true.1 hall t hm)⟩)
    (by kernel_rfl)
#print axioms card_holds
end Go.Proofs.YthfacindpgoedaaGreatDoor
end
