/- Part of the proof: AmBackFacts. -/
import Derived.Test.YtkajhokkaadiiaaGreatDoorRows
import Derived.Test.YtkajhokkaadiiaaGreatDoorJoin
import Derived.KernelRfl
set_option linter.unusedSimpArgs false
set_option linter.unusedVariables false
section
namespace Go.Proofs.YtkajhokkaadiiaaGreatDoor
open Go
theorem backf0 : (Rows.decompBackUptoRow.wf (OpenSpec.ofChange (Rows.OpenSpec.upto Rows.decompBackSpec).bare)) = true := by kernel_rfl
theorem backf1 : (laidOutB Tryz.prog) = true := by kernel_rfl
theorem backf2 : (mapsRowed Tryz.prog) = true := by kernel_rfl
theorem backf3 : (Tryz.f5.params.all (Tryz.prog.readableRec ·)) = true := by kernel_rfl
theorem backf4 : (namedTie Tryz.prog Rows.decompBackUptoRow.named (Rows.OpenSpec.upto Rows.decompBackSpec).bare.vars) = true := by kernel_rfl
theorem backf5 : ((Rows.decompBackUptoRow.stops == [])) = true := by kernel_rfl
theorem backf6 : ((Tryz.prog.stops == [])) = true := by kernel_rfl
theorem backf7 : ((Rows.decompBackUptoRow.knobs == [])) = true := by kernel_rfl
theorem backf8 : ((Tryz.prog.stopKnobs == [])) = true := by kernel_rfl
theorem backf9 : ((Rows.decompBackUptoRow.inPlace == Tryz.prog.inPlace 5)) = true := by kernel_rfl
theorem backf10 : ((Rows.decompBackUptoRow.unfollowed == Tryz.prog.unfollowed 5)) = true := by kernel_rfl
theorem backf11 : ((Rows.decompBackUptoRow.recurses == Tryz.prog.recurses 5)) = true := by kernel_rfl
theorem backf12 : ((Rows.decompBackUptoRow.named == Tryz.prog.varsNamed 5)) = true := by kernel_rfl
theorem backf13 : ((Rows.decompBackUptoRow.maps == (Tryz.f5.params.toList ++ (Rows.OpenSpec.upto Rows.decompBackSpec).bare.plain.varTypes Tryz.prog).any (Tryz.prog.mapsRec ·))) = true := by kernel_rfl
theorem backf14 : ((Rows.decompBackUptoRow.ifaces == (Tryz.f5.params.toList ++ (Rows.OpenSpec.upto Rows.decompBackSpec).bare.plain.varTypes Tryz.prog).any (Tryz.prog.ifacesRec ·))) = true := by kernel_rfl
theorem backf15 : ((Rows.decompBackUptoRow.mapsOut == Tryz.prog.mapsAmong Tryz.f5.resultTypes.toList)) = true := by kernel_rfl
theorem backf16 : ((Rows.decompBackUptoRow.loops == (Tryz.f5.params.toList ++ (Rows.OpenSpec.upto Rows.decompBackSpec).bare.plain.varTypes Tryz.prog).any (Tryz.prog.loopsFrom ·))) = true := by kernel_rfl
theorem backf17 : ((Rows.decompBackUptoRow.wideKeys == (Tryz.f5.params.toList ++ (Rows.OpenSpec.upto Rows.decompBackSpec).bare.plain.varTypes Tryz.prog ++ Tryz.f5.resultTypes.toList).any (Tryz.prog.wideKeysFrom ·))) = true := by kernel_rfl
theorem backf18 : ((Rows.OpenSpec.upto Rows.decompBackSpec).bare.vars.all (Tryz.prog.varReadable ·)) = true := by kernel_rfl
theorem backf19 : (Tryz.f5.resultTypes.all (fun t => Tryz.prog.readableRec t && decide (t < Tryz.prog.types.size))) = true := by kernel_rfl
theorem backf20 : ((Rows.decompBackUptoRow.ifacesOut == Tryz.f5.resultTypes.toList.any (Tryz.prog.ifacesRec ·))) = true := by kernel_rfl
theorem backf21 : ((Rows.decompBackUptoRow.loopsOut == Tryz.f5.resultTypes.toList.any (Tryz.prog.loopsFrom ·))) = true := by kernel_rfl
theorem backf22 : ((Rows.decompBackUptoRow.plainKeys == Tryz.prog.plainKeys)) = true := by kernel_rfl
theorem backf23 : (Rows.decompBackUptoRow.shortTexts.isNone) = true := by kernel_rfl
theorem backf24 : (Tryz.prog.stopsHeard) = true := by kernel_rfl
theorem backf25 : (Tryz.prog.mayEnter) = true := by kernel_rfl
theorem backf26 : ((Rows.decompBackUptoRow.lifted == Tryz.prog.liftsFinal)) = true := by kernel_rfl
theorem backf27 : ((Tryz.prog.make == some Rows.decompBackUptoRow.make)) = true := by kernel_rfl
theorem backf28 : ((Rows.decompBackUptoRow.kinds == (if Rows.decompBackUptoRow.domain.isEmpty then [] else Tryz.f5.params.toList.map fun t => match Tryz.prog.underlying t with | some (.int k) => some k | _ => none))) = true := by kernel_rfl
theorem backf29 : ((Rows.decompBackUptoRow.pinned == Rows.decompBackUptoRow.pinnedBy)) = true := by kernel_rfl
theorem backf30 : ((Rows.decompBackUptoRow.veiled == (Tryz.f5.params.toList ++ (Rows.OpenSpec.upto Rows.decompBackSpec).bare.plain.varTypes Tryz.prog ++ Tryz.f5.resultTypes.toList).any (Tryz.prog.veiledRec ·))) = true := by kernel_rfl
theorem backf31 : (Rows.decompBackUptoRow.veiledFits Tryz.prog Tryz.f5.params.toList (Tryz.f5.params.toList ++ (Rows.OpenSpec.upto Rows.decompBackSpec).bare.plain.varTypes Tryz.prog ++ Tryz.f5.resultTypes.toList)) = true := by kernel_rfl
set_option maxRecDepth 1000000 in
theorem backfacts : joinedFacts Tryz.prog 5 Tryz.f5 (Rows.OpenSpec.upto Rows.decompBackSpec).bare Rows.decompBackUptoRow = true := @Go.Am.joined_of Tryz.prog 5 Tryz.f5 (Rows.OpenSpec.upto Rows.decompBackSpec).bare Rows.decompBackUptoRow backf0 backf1 backf2 backf3 backf4 backf5 backf6 backf7 backf8 backf9 backf10 backf11 backf12 backf13 backf14 backf15 backf16 backf17 backf18 backf19 backf20 backf21 backf22 backf23 backf24 backf25 backf26 backf27 backf28 backf29 backf30 backf31
end Go.Proofs.YtkajhokkaadiiaaGreatDoor
end
