/- Part of the proof: AmDecFacts. -/
import Derived.Test.YtkajhokkaadiiaaGreatDoorRows
import Derived.Test.YtkajhokkaadiiaaGreatDoorJoin
import Derived.KernelRfl
set_option linter.unusedSimpArgs false
set_option linter.unusedVariables false
section
namespace Go.Proofs.YtkajhokkaadiiaaGreatDoor
open Go
theorem decf0 : (Rows.decompDecodesUptoRow.wf (OpenSpec.ofChange (Rows.OpenSpec.upto Rows.decompDecodesSpec).bare)) = true := by kernel_rfl
theorem decf1 : (laidOutB Tryz.prog) = true := by kernel_rfl
theorem decf2 : (mapsRowed Tryz.prog) = true := by kernel_rfl
theorem decf3 : (Tryz.f4.params.all (Tryz.prog.readableRec ·)) = true := by kernel_rfl
theorem decf4 : (namedTie Tryz.prog Rows.decompDecodesUptoRow.named (Rows.OpenSpec.upto Rows.decompDecodesSpec).bare.vars) = true := by kernel_rfl
theorem decf5 : ((Rows.decompDecodesUptoRow.stops == [])) = true := by kernel_rfl
theorem decf6 : ((Tryz.prog.stops == [])) = true := by kernel_rfl
theorem decf7 : ((Rows.decompDecodesUptoRow.knobs == [])) = true := by kernel_rfl
theorem decf8 : ((Tryz.prog.stopKnobs == [])) = true := by kernel_rfl
theorem decf9 : ((Rows.decompDecodesUptoRow.inPlace == Tryz.prog.inPlace 4)) = true := by kernel_rfl
theorem decf10 : ((Rows.decompDecodesUptoRow.unfollowed == Tryz.prog.unfollowed 4)) = true := by kernel_rfl
theorem decf11 : ((Rows.decompDecodesUptoRow.recurses == Tryz.prog.recurses 4)) = true := by kernel_rfl
theorem decf12 : ((Rows.decompDecodesUptoRow.named == Tryz.prog.varsNamed 4)) = true := by kernel_rfl
theorem decf13 : ((Rows.decompDecodesUptoRow.maps == (Tryz.f4.params.toList ++ (Rows.OpenSpec.upto Rows.decompDecodesSpec).bare.plain.varTypes Tryz.prog).any (Tryz.prog.mapsRec ·))) = true := by kernel_rfl
theorem decf14 : ((Rows.decompDecodesUptoRow.ifaces == (Tryz.f4.params.toList ++ (Rows.OpenSpec.upto Rows.decompDecodesSpec).bare.plain.varTypes Tryz.prog).any (Tryz.prog.ifacesRec ·))) = true := by kernel_rfl
theorem decf15 : ((Rows.decompDecodesUptoRow.mapsOut == Tryz.prog.mapsAmong Tryz.f4.resultTypes.toList)) = true := by kernel_rfl
theorem decf16 : ((Rows.decompDecodesUptoRow.loops == (Tryz.f4.params.toList ++ (Rows.OpenSpec.upto Rows.decompDecodesSpec).bare.plain.varTypes Tryz.prog).any (Tryz.prog.loopsFrom ·))) = true := by kernel_rfl
theorem decf17 : ((Rows.decompDecodesUptoRow.wideKeys == (Tryz.f4.params.toList ++ (Rows.OpenSpec.upto Rows.decompDecodesSpec).bare.plain.varTypes Tryz.prog ++ Tryz.f4.resultTypes.toList).any (Tryz.prog.wideKeysFrom ·))) = true := by kernel_rfl
theorem decf18 : ((Rows.OpenSpec.upto Rows.decompDecodesSpec).bare.vars.all (Tryz.prog.varReadable ·)) = true := by kernel_rfl
theorem decf19 : (Tryz.f4.resultTypes.all (fun t => Tryz.prog.readableRec t && decide (t < Tryz.prog.types.size))) = true := by kernel_rfl
theorem decf20 : ((Rows.decompDecodesUptoRow.ifacesOut == Tryz.f4.resultTypes.toList.any (Tryz.prog.ifacesRec ·))) = true := by kernel_rfl
theorem decf21 : ((Rows.decompDecodesUptoRow.loopsOut == Tryz.f4.resultTypes.toList.any (Tryz.prog.loopsFrom ·))) = true := by kernel_rfl
theorem decf22 : ((Rows.decompDecodesUptoRow.plainKeys == Tryz.prog.plainKeys)) = true := by kernel_rfl
theorem decf23 : (Rows.decompDecodesUptoRow.shortTexts.isNone) = true := by kernel_rfl
theorem decf24 : (Tryz.prog.stopsHeard) = true := by kernel_rfl
theorem decf25 : (Tryz.prog.mayEnter) = true := by kernel_rfl
theorem decf26 : ((Rows.decompDecodesUptoRow.lifted == Tryz.prog.liftsFinal)) = true := by kernel_rfl
theorem decf27 : ((Tryz.prog.make == some Rows.decompDecodesUptoRow.make)) = true := by kernel_rfl
theorem decf28 : ((Rows.decompDecodesUptoRow.kinds == (if Rows.decompDecodesUptoRow.domain.isEmpty then [] else Tryz.f4.params.toList.map fun t => match Tryz.prog.underlying t with | some (.int k) => some k | _ => none))) = true := by kernel_rfl
theorem decf29 : ((Rows.decompDecodesUptoRow.pinned == Rows.decompDecodesUptoRow.pinnedBy)) = true := by kernel_rfl
theorem decf30 : ((Rows.decompDecodesUptoRow.veiled == (Tryz.f4.params.toList ++ (Rows.OpenSpec.upto Rows.decompDecodesSpec).bare.plain.varTypes Tryz.prog ++ Tryz.f4.resultTypes.toList).any (Tryz.prog.veiledRec ·))) = true := by kernel_rfl
theorem decf31 : (Rows.decompDecodesUptoRow.veiledFits Tryz.prog Tryz.f4.params.toList (Tryz.f4.params.toList ++ (Rows.OpenSpec.upto Rows.decompDecodesSpec).bare.plain.varTypes Tryz.prog ++ Tryz.f4.resultTypes.toList)) = true := by kernel_rfl
set_option maxRecDepth 1000000 in
theorem decfacts : joinedFacts Tryz.prog 4 Tryz.f4 (Rows.OpenSpec.upto Rows.decompDecodesSpec).bare Rows.decompDecodesUptoRow = true := @Go.Am.joined_of Tryz.prog 4 Tryz.f4 (Rows.OpenSpec.upto Rows.decompDecodesSpec).bare Rows.decompDecodesUptoRow decf0 decf1 decf2 decf3 decf4 decf5 decf6 decf7 decf8 decf9 decf10 decf11 decf12 decf13 decf14 decf15 decf16 decf17 decf18 decf19 decf20 decf21 decf22 decf23 decf24 decf25 decf26 decf27 decf28 decf29 decf30 decf31
end Go.Proofs.YtkajhokkaadiiaaGreatDoor
end
