/- Part of the proof: AmFacts. -/
import Derived.Test.YthdompljhpeimaaGreatDoorRows
import Derived.Test.YthdompljhpeimaaGreatDoorAm24
import Derived.KernelRfl
section
namespace Go.Proofs.YthdompljhpeimaaGreatDoor
open Go
theorem namf0 : (Rows.extractNamesRow.wf (OpenSpec.ofChange Rows.extractNamesSpec)) = true := by kernel_rfl
theorem namf1 : (laidOutB Tryz.prog) = true := by kernel_rfl
theorem namf2 : (mapsRowed Tryz.prog) = true := by kernel_rfl
theorem namf3 : (Tryz.f3.params.all (Tryz.prog.readableRec ·)) = true := by kernel_rfl
theorem namf4 : (namedTie Tryz.prog Rows.extractNamesRow.named Rows.extractNamesSpec.vars) = true := by kernel_rfl
theorem namf5 : ((Rows.extractNamesRow.stops == [])) = true := by kernel_rfl
theorem namf6 : ((Tryz.prog.stops == [])) = true := by kernel_rfl
theorem namf7 : ((Rows.extractNamesRow.knobs == [])) = true := by kernel_rfl
theorem namf8 : ((Tryz.prog.stopKnobs == [])) = true := by kernel_rfl
theorem namf9 : ((Rows.extractNamesRow.inPlace == Tryz.prog.inPlace 3)) = true := by kernel_rfl
theorem namf10 : ((Rows.extractNamesRow.unfollowed == Tryz.prog.unfollowed 3)) = true := by kernel_rfl
theorem namf11 : ((Rows.extractNamesRow.recurses == Tryz.prog.recurses 3)) = true := by kernel_rfl
theorem namf12 : ((Rows.extractNamesRow.named == Tryz.prog.varsNamed 3)) = true := by kernel_rfl
theorem namf13 : ((Rows.extractNamesRow.maps == (Tryz.f3.params.toList ++ Rows.extractNamesSpec.plain.varTypes Tryz.prog).any (Tryz.prog.mapsRec ·))) = true := by kernel_rfl
theorem namf14 : ((Rows.extractNamesRow.ifaces == (Tryz.f3.params.toList ++ Rows.extractNamesSpec.plain.varTypes Tryz.prog).any (Tryz.prog.ifacesRec ·))) = true := by kernel_rfl
theorem namf15 : ((Rows.extractNamesRow.mapsOut == Tryz.prog.mapsAmong Tryz.f3.resultTypes.toList)) = true := by kernel_rfl
theorem namf16 : ((Rows.extractNamesRow.loops == (Tryz.f3.params.toList ++ Rows.extractNamesSpec.plain.varTypes Tryz.prog).any (Tryz.prog.loopsFrom ·))) = true := by kernel_rfl
theorem namf17 : ((Rows.extractNamesRow.wideKeys == (Tryz.f3.params.toList ++ Rows.extractNamesSpec.plain.varTypes Tryz.prog ++ Tryz.f3.resultTypes.toList).any (Tryz.prog.wideKeysFrom ·))) = true := by kernel_rfl
theorem namf18 : (Rows.extractNamesSpec.vars.all (Tryz.prog.varReadable ·)) = true := by kernel_rfl
theorem namf19 : (Tryz.f3.resultTypes.all (fun t => Tryz.prog.readableRec t && decide (t < Tryz.prog.types.size))) = true := by kernel_rfl
theorem namf20 : ((Rows.extractNamesRow.ifacesOut == Tryz.f3.resultTypes.toList.any (Tryz.prog.ifacesRec ·))) = true := by kernel_rfl
theorem namf21 : ((Rows.extractNamesRow.loopsOut == Tryz.f3.resultTypes.toList.any (Tryz.prog.loopsFrom ·))) = true := by kernel_rfl
theorem namf22 : ((Rows.extractNamesRow.plainKeys == Tryz.prog.plainKeys)) = true := by kernel_rfl
theorem namf23 : (Rows.extractNamesRow.shortTexts.isNone) = true := by kernel_rfl
theorem namf24 : (Tryz.prog.stopsHeard) = true := by kernel_rfl
theorem namf25 : (Tryz.prog.mayEnter) = true := by kernel_rfl
theorem namf26 : ((Rows.extractNamesRow.lifted == Tryz.prog.liftsFinal)) = true := by kernel_rfl
theorem namf27 : ((Tryz.prog.make == some Rows.extractNamesRow.make)) = true := by kernel_rfl
theorem namf28 : ((Rows.extractNamesRow.kinds == (if Rows.extractNamesRow.domain.isEmpty then [] else Tryz.f3.params.toList.map fun t => match Tryz.prog.underlying t with | some (.int k) => some k | _ => none))) = true := by kernel_rfl
theorem namf29 : ((Rows.extractNamesRow.pinned == Rows.extractNamesRow.pinnedBy)) = true := by kernel_rfl
theorem namf30 : ((Rows.extractNamesRow.veiled == (Tryz.f3.params.toList ++ Rows.extractNamesSpec.plain.varTypes Tryz.prog ++ Tryz.f3.resultTypes.toList).any (Tryz.prog.veiledRec ·))) = true := by kernel_rfl
theorem namf31 : (Rows.extractNamesRow.veiledFits Tryz.prog Tryz.f3.params.toList (Tryz.f3.params.toList ++ Rows.extractNamesSpec.plain.varTypes Tryz.prog ++ Tryz.f3.resultTypes.toList)) = true := by kernel_rfl
set_option maxRecDepth 1000000 in
theorem namfacts : joinedFacts Tryz.prog 3 Tryz.f3 Rows.extractNamesSpec Rows.extractNamesRow = true := @Go.Am.joined_of Tryz.prog 3 Tryz.f3 Rows.extractNamesSpec Rows.extractNamesRow namf0 namf1 namf2 namf3 namf4 namf5 namf6 namf7 namf8 namf9 namf10 namf11 namf12 namf13 namf14 namf15 namf16 namf17 namf18 namf19 namf20 namf21 namf22 namf23 namf24 namf25 namf26 namf27 namf28 namf29 namf30 namf31
end Go.Proofs.YthdompljhpeimaaGreatDoor
end
