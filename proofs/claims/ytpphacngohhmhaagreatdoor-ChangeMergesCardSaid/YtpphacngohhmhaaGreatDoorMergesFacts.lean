/- Part of the proof: AmMergesFacts. -/
import Derived.Test.YtpphacngohhmhaaGreatDoorRows
import Derived.Test.YtpphacngohhmhaaGreatDoorJoin
import Derived.KernelRfl
set_option linter.unusedSimpArgs false
set_option linter.unusedVariables false
section
namespace Go.Proofs.YtpphacngohhmhaaGreatDoor
open Go
theorem mergesf0 : (Rows.changeMergesRow.wf (OpenSpec.ofChange Rows.changeMergesSpec)) = true := by kernel_rfl
theorem mergesf1 : (laidOutB Tryz.prog) = true := by kernel_rfl
theorem mergesf2 : (mapsRowed Tryz.prog) = true := by kernel_rfl
theorem mergesf3 : (Tryz.f3.params.all (Tryz.prog.readableRec ·)) = true := by kernel_rfl
theorem mergesf4 : (namedTie Tryz.prog Rows.changeMergesRow.named Rows.changeMergesSpec.vars) = true := by kernel_rfl
theorem mergesf5 : ((Rows.changeMergesRow.stops == [])) = true := by kernel_rfl
theorem mergesf6 : ((Tryz.prog.stops == [])) = true := by kernel_rfl
theorem mergesf7 : ((Rows.changeMergesRow.knobs == [])) = true := by kernel_rfl
theorem mergesf8 : ((Tryz.prog.stopKnobs == [])) = true := by kernel_rfl
theorem mergesf9 : ((Rows.changeMergesRow.inPlace == Tryz.prog.inPlace 3)) = true := by kernel_rfl
theorem mergesf10 : ((Rows.changeMergesRow.unfollowed == Tryz.prog.unfollowed 3)) = true := by kernel_rfl
theorem mergesf11 : ((Rows.changeMergesRow.recurses == Tryz.prog.recurses 3)) = true := by kernel_rfl
theorem mergesf12 : ((Rows.changeMergesRow.named == Tryz.prog.varsNamed 3)) = true := by kernel_rfl
theorem mergesf13 : ((Rows.changeMergesRow.maps == (Tryz.f3.params.toList ++ Rows.changeMergesSpec.plain.varTypes Tryz.prog).any (Tryz.prog.mapsRec ·))) = true := by kernel_rfl
theorem mergesf14 : ((Rows.changeMergesRow.ifaces == (Tryz.f3.params.toList ++ Rows.changeMergesSpec.plain.varTypes Tryz.prog).any (Tryz.prog.ifacesRec ·))) = true := by kernel_rfl
theorem mergesf15 : ((Rows.changeMergesRow.mapsOut == Tryz.prog.mapsAmong Tryz.f3.resultTypes.toList)) = true := by kernel_rfl
theorem mergesf16 : ((Rows.changeMergesRow.loops == (Tryz.f3.params.toList ++ Rows.changeMergesSpec.plain.varTypes Tryz.prog).any (Tryz.prog.loopsFrom ·))) = true := by kernel_rfl
theorem mergesf17 : ((Rows.changeMergesRow.wideKeys == (Tryz.f3.params.toList ++ Rows.changeMergesSpec.plain.varTypes Tryz.prog ++ Tryz.f3.resultTypes.toList).any (Tryz.prog.wideKeysFrom ·))) = true := by kernel_rfl
theorem mergesf18 : (Rows.changeMergesSpec.vars.all (Tryz.prog.varReadable ·)) = true := by kernel_rfl
theorem mergesf19 : (Tryz.f3.resultTypes.all (fun t => Tryz.prog.readableRec t && decide (t < Tryz.prog.types.size))) = true := by kernel_rfl
theorem mergesf20 : ((Rows.changeMergesRow.ifacesOut == Tryz.f3.resultTypes.toList.any (Tryz.prog.ifacesRec ·))) = true := by kernel_rfl
theorem mergesf21 : ((Rows.changeMergesRow.loopsOut == Tryz.f3.resultTypes.toList.any (Tryz.prog.loopsFrom ·))) = true := by kernel_rfl
theorem mergesf22 : ((Rows.changeMergesRow.plainKeys == Tryz.prog.plainKeys)) = true := by kernel_rfl
theorem mergesf23 : (Rows.changeMergesRow.shortTexts.isNone) = true := by kernel_rfl
theorem mergesf24 : (Tryz.prog.stopsHeard) = true := by kernel_rfl
theorem mergesf25 : (Tryz.prog.mayEnter) = true := by kernel_rfl
theorem mergesf26 : ((Rows.changeMergesRow.lifted == Tryz.prog.liftsFinal)) = true := by kernel_rfl
theorem mergesf27 : ((Tryz.prog.make == some Rows.changeMergesRow.make)) = true := by kernel_rfl
theorem mergesf28 : ((Rows.changeMergesRow.kinds == (if Rows.changeMergesRow.domain.isEmpty then [] else Tryz.f3.params.toList.map fun t => match Tryz.prog.underlying t with | some (.int k) => some k | _ => none))) = true := by kernel_rfl
theorem mergesf29 : ((Rows.changeMergesRow.pinned == Rows.changeMergesRow.pinnedBy)) = true := by kernel_rfl
theorem mergesf30 : ((Rows.changeMergesRow.veiled == (Tryz.f3.params.toList ++ Rows.changeMergesSpec.plain.varTypes Tryz.prog ++ Tryz.f3.resultTypes.toList).any (Tryz.prog.veiledRec ·))) = true := by kernel_rfl
theorem mergesf31 : (Rows.changeMergesRow.veiledFits Tryz.prog Tryz.f3.params.toList (Tryz.f3.params.toList ++ Rows.changeMergesSpec.plain.varTypes Tryz.prog ++ Tryz.f3.resultTypes.toList)) = true := by kernel_rfl
set_option maxRecDepth 1000000 in
theorem mergesfacts : joinedFacts Tryz.prog 3 Tryz.f3 Rows.changeMergesSpec Rows.changeMergesRow = true := @Go.Am.joined_of Tryz.prog 3 Tryz.f3 Rows.changeMergesSpec Rows.changeMergesRow mergesf0 mergesf1 mergesf2 mergesf3 mergesf4 mergesf5 mergesf6 mergesf7 mergesf8 mergesf9 mergesf10 mergesf11 mergesf12 mergesf13 mergesf14 mergesf15 mergesf16 mergesf17 mergesf18 mergesf19 mergesf20 mergesf21 mergesf22 mergesf23 mergesf24 mergesf25 mergesf26 mergesf27 mergesf28 mergesf29 mergesf30 mergesf31
end Go.Proofs.YtpphacngohhmhaaGreatDoor
end
