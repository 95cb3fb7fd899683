/- Part of the proof: AmNetsFacts. -/
import Derived.Test.YthfacindpgoedaaGreatDoorRows
import Derived.Test.YthfacindpgoedaaGreatDoorJoin
import Derived.KernelRfl
set_option linter.unusedSimpArgs false
set_option linter.unusedVariables false
section
namespace Go.Proofs.YthfacindpgoedaaGreatDoor
open Go
theorem netsf0 : (Rows.changeNetsRow.wf (OpenSpec.ofChange Rows.changeNetsSpec)) = true := by kernel_rfl
theorem netsf1 : (laidOutB Tryz.prog) = true := by kernel_rfl
theorem netsf2 : (mapsRowed Tryz.prog) = true := by kernel_rfl
theorem netsf3 : (Tryz.f3.params.all (Tryz.prog.readableRec ·)) = true := by kernel_rfl
theorem netsf4 : (namedTie Tryz.prog Rows.changeNetsRow.named Rows.changeNetsSpec.vars) = true := by kernel_rfl
theorem netsf5 : ((Rows.changeNetsRow.stops == [])) = true := by kernel_rfl
theorem netsf6 : ((Tryz.prog.stops == [])) = true := by kernel_rfl
theorem netsf7 : ((Rows.changeNetsRow.knobs == [])) = true := by kernel_rfl
theorem netsf8 : ((Tryz.prog.stopKnobs == [])) = true := by kernel_rfl
theorem netsf9 : ((Rows.changeNetsRow.inPlace == Tryz.prog.inPlace 3)) = true := by kernel_rfl
theorem netsf10 : ((Rows.changeNetsRow.unfollowed == Tryz.prog.unfollowed 3)) = true := by kernel_rfl
theorem netsf11 : ((Rows.changeNetsRow.recurses == Tryz.prog.recurses 3)) = true := by kernel_rfl
theorem netsf12 : ((Rows.changeNetsRow.named == Tryz.prog.varsNamed 3)) = true := by kernel_rfl
theorem netsf13 : ((Rows.changeNetsRow.maps == (Tryz.f3.params.toList ++ Rows.changeNetsSpec.plain.varTypes Tryz.prog).any (Tryz.prog.mapsRec ·))) = true := by kernel_rfl
theorem netsf14 : ((Rows.changeNetsRow.ifaces == (Tryz.f3.params.toList ++ Rows.changeNetsSpec.plain.varTypes Tryz.prog).any (Tryz.prog.ifacesRec ·))) = true := by kernel_rfl
theorem netsf15 : ((Rows.changeNetsRow.mapsOut == Tryz.prog.mapsAmong Tryz.f3.resultTypes.toList)) = true := by kernel_rfl
theorem netsf16 : ((Rows.changeNetsRow.loops == (Tryz.f3.params.toList ++ Rows.changeNetsSpec.plain.varTypes Tryz.prog).any (Tryz.prog.loopsFrom ·))) = true := by kernel_rfl
theorem netsf17 : ((Rows.changeNetsRow.wideKeys == (Tryz.f3.params.toList ++ Rows.changeNetsSpec.plain.varTypes Tryz.prog ++ Tryz.f3.resultTypes.toList).any (Tryz.prog.wideKeysFrom ·))) = true := by kernel_rfl
theorem netsf18 : (Rows.changeNetsSpec.vars.all (Tryz.prog.varReadable ·)) = true := by kernel_rfl
theorem netsf19 : (Tryz.f3.resultTypes.all (fun t => Tryz.prog.readableRec t && decide (t < Tryz.prog.types.size))) = true := by kernel_rfl
theorem netsf20 : ((Rows.changeNetsRow.ifacesOut == Tryz.f3.resultTypes.toList.any (Tryz.prog.ifacesRec ·))) = true := by kernel_rfl
theorem netsf21 : ((Rows.changeNetsRow.loopsOut == Tryz.f3.resultTypes.toList.any (Tryz.prog.loopsFrom ·))) = true := by kernel_rfl
theorem netsf22 : ((Rows.changeNetsRow.plainKeys == Tryz.prog.plainKeys)) = true := by kernel_rfl
theorem netsf23 : (Rows.changeNetsRow.shortTexts.isNone) = true := by kernel_rfl
theorem netsf24 : (Tryz.prog.stopsHeard) = true := by kernel_rfl
theorem netsf25 : (Tryz.prog.mayEnter) = true := by kernel_rfl
theorem netsf26 : ((Rows.changeNetsRow.lifted == Tryz.prog.liftsFinal)) = true := by kernel_rfl
theorem netsf27 : ((Tryz.prog.make == some Rows.changeNetsRow.make)) = true := by kernel_rfl
theorem netsf28 : ((Rows.changeNetsRow.kinds == (if Rows.changeNetsRow.domain.isEmpty then [] else Tryz.f3.params.toList.map fun t => match Tryz.prog.underlying t with | some (.int k) => some k | _ => none))) = true := by kernel_rfl
theorem netsf29 : ((Rows.changeNetsRow.pinned == Rows.changeNetsRow.pinnedBy)) = true := by kernel_rfl
theorem netsf30 : ((Rows.changeNetsRow.veiled == (Tryz.f3.params.toList ++ Rows.changeNetsSpec.plain.varTypes Tryz.prog ++ Tryz.f3.resultTypes.toList).any (Tryz.prog.veiledRec ·))) = true := by kernel_rfl
theorem netsf31 : (Rows.changeNetsRow.veiledFits Tryz.prog Tryz.f3.params.toList (Tryz.f3.params.toList ++ Rows.changeNetsSpec.plain.varTypes Tryz.prog ++ Tryz.f3.resultTypes.toList)) = true := by kernel_rfl
set_option maxRecDepth 1000000 in
theorem netsfacts : joinedFacts Tryz.prog 3 Tryz.f3 Rows.changeNetsSpec Rows.changeNetsRow = true := @Go.Am.joined_of Tryz.prog 3 Tryz.f3 Rows.changeNetsSpec Rows.changeNetsRow netsf0 netsf1 netsf2 netsf3 netsf4 netsf5 netsf6 netsf7 netsf8 netsf9 netsf10 netsf11 netsf12 netsf13 netsf14 netsf15 netsf16 netsf17 netsf18 netsf19 netsf20 netsf21 netsf22 netsf23 netsf24 netsf25 netsf26 netsf27 netsf28 netsf29 netsf30 netsf31
end Go.Proofs.YthfacindpgoedaaGreatDoor
end
