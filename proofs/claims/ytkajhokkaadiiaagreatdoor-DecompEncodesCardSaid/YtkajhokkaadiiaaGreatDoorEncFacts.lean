/- Part of the proof: AmFacts. -/
import Derived.Test.YtkajhokkaadiiaaGreatDoorRows
import Derived.Test.YtkajhokkaadiiaaGreatDoorJoin
import Derived.KernelRfl
section
namespace Go.Proofs.YtkajhokkaadiiaaGreatDoor
open Go
theorem encf0 : (Rows.decompEncodesRow.wf (OpenSpec.ofChange Rows.decompEncodesSpec)) = true := by kernel_rfl
theorem encf1 : (laidOutB Tryz.prog) = true := by kernel_rfl
theorem encf2 : (mapsRowed Tryz.prog) = true := by kernel_rfl
theorem encf3 : (Tryz.f3.params.all (Tryz.prog.readableRec ·)) = true := by kernel_rfl
theorem encf4 : (namedTie Tryz.prog Rows.decompEncodesRow.named Rows.decompEncodesSpec.vars) = true := by kernel_rfl
theorem encf5 : ((Rows.decompEncodesRow.stops == [])) = true := by kernel_rfl
theorem encf6 : ((Tryz.prog.stops == [])) = true := by kernel_rfl
theorem encf7 : ((Rows.decompEncodesRow.knobs == [])) = true := by kernel_rfl
theorem encf8 : ((Tryz.prog.stopKnobs == [])) = true := by kernel_rfl
theorem encf9 : ((Rows.decompEncodesRow.inPlace == Tryz.prog.inPlace 3)) = true := by kernel_rfl
theorem encf10 : ((Rows.decompEncodesRow.unfollowed == Tryz.prog.unfollowed 3)) = true := by kernel_rfl
theorem encf11 : ((Rows.decompEncodesRow.recurses == Tryz.prog.recurses 3)) = true := by kernel_rfl
theorem encf12 : ((Rows.decompEncodesRow.named == Tryz.prog.varsNamed 3)) = true := by kernel_rfl
theorem encf13 : ((Rows.decompEncodesRow.maps == (Tryz.f3.params.toList ++ Rows.decompEncodesSpec.plain.varTypes Tryz.prog).any (Tryz.prog.mapsRec ·))) = true := by kernel_rfl
theorem encf14 : ((Rows.decompEncodesRow.ifaces == (Tryz.f3.params.toList ++ Rows.decompEncodesSpec.plain.varTypes Tryz.prog).any (Tryz.prog.ifacesRec ·))) = true := by kernel_rfl
theorem encf15 : ((Rows.decompEncodesRow.mapsOut == Tryz.prog.mapsAmong Tryz.f3.resultTypes.toList)) = true := by kernel_rfl
theorem encf16 : ((Rows.decompEncodesRow.loops == (Tryz.f3.params.toList ++ Rows.decompEncodesSpec.plain.varTypes Tryz.prog).any (Tryz.prog.loopsFrom ·))) = true := by kernel_rfl
theorem encf17 : ((Rows.decompEncodesRow.wideKeys == (Tryz.f3.params.toList ++ Rows.decompEncodesSpec.plain.varTypes Tryz.prog ++ Tryz.f3.resultTypes.toList).any (Tryz.prog.wideKeysFrom ·))) = true := by kernel_rfl
theorem encf18 : (Rows.decompEncodesSpec.vars.all (Tryz.prog.varReadable ·)) = true := by kernel_rfl
theorem encf19 : (Tryz.f3.resultTypes.all (fun t => Tryz.prog.readableRec t && decide (t < Tryz.prog.types.size))) = true := by kernel_rfl
theorem encf20 : ((Rows.decompEncodesRow.ifacesOut == Tryz.f3.resultTypes.toList.any (Tryz.prog.ifacesRec ·))) = true := by kernel_rfl
theorem encf21 : ((Rows.decompEncodesRow.loopsOut == Tryz.f3.resultTypes.toList.any (Tryz.prog.loopsFrom ·))) = true := by kernel_rfl
theorem encf22 : ((Rows.decompEncodesRow.plainKeys == Tryz.prog.plainKeys)) = true := by kernel_rfl
theorem encf23 : (Rows.decompEncodesRow.shortTexts.isNone) = true := by kernel_rfl
theorem encf24 : (Tryz.prog.stopsHeard) = true := by kernel_rfl
theorem encf25 : (Tryz.prog.mayEnter) = true := by kernel_rfl
theorem encf26 : ((Rows.decompEncodesRow.lifted == Tryz.prog.liftsFinal)) = true := by kernel_rfl
theorem encf27 : ((Tryz.prog.make == some Rows.decompEncodesRow.make)) = true := by kernel_rfl
theorem encf28 : ((Rows.decompEncodesRow.kinds == (if Rows.decompEncodesRow.domain.isEmpty then [] else Tryz.f3.params.toList.map fun t => match Tryz.prog.underlying t with | some (.int k) => some k | _ => none))) = true := by kernel_rfl
theorem encf29 : ((Rows.decompEncodesRow.pinned == Rows.decompEncodesRow.pinnedBy)) = true := by kernel_rfl
theorem encf30 : ((Rows.decompEncodesRow.veiled == (Tryz.f3.params.toList ++ Rows.decompEncodesSpec.plain.varTypes Tryz.prog ++ Tryz.f3.resultTypes.toList).any (Tryz.prog.veiledRec ·))) = true := by kernel_rfl
theorem encf31 : (Rows.decompEncodesRow.veiledFits Tryz.prog Tryz.f3.params.toList (Tryz.f3.params.toList ++ Rows.decompEncodesSpec.plain.varTypes Tryz.prog ++ Tryz.f3.resultTypes.toList)) = true := by kernel_rfl
set_option maxRecDepth 1000000 in
theorem encfacts : joinedFacts Tryz.prog 3 Tryz.f3 Rows.decompEncodesSpec Rows.decompEncodesRow = true := @Go.Am.joined_of Tryz.prog 3 Tryz.f3 Rows.decompEncodesSpec Rows.decompEncodesRow encf0 encf1 encf2 encf3 encf4 encf5 encf6 encf7 encf8 encf9 encf10 encf11 encf12 encf13 encf14 encf15 encf16 encf17 encf18 encf19 encf20 encf21 encf22 encf23 encf24 encf25 encf26 encf27 encf28 encf29 encf30 encf31
end Go.Proofs.YtkajhokkaadiiaaGreatDoor
end
