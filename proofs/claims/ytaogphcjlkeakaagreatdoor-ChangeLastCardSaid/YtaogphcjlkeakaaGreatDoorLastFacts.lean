/- Part of the proof: AmLastFacts. -/
import Derived.Test.YtaogphcjlkeakaaGreatDoorRows
import Derived.Test.YtaogphcjlkeakaaGreatDoorJoin
import Derived.KernelRfl
set_option linter.unusedSimpArgs false
set_option linter.unusedVariables false
section
namespace Go.Proofs.YtaogphcjlkeakaaGreatDoor
open Go
theorem lastf0:(Rows.changeLastRow.wf (OpenSpec.ofChange Rows.changeLastSpec)) = true:=by kernel_rfl
theorem lastf1:(laidOutB Tryz.prog) = true:=by kernel_rfl
theorem lastf2:(mapsRowed Tryz.prog) = true:=by kernel_rfl
theorem lastf3:(Tryz.f3.params.all (Tryz.prog.readableRec ·)) = true:=by kernel_rfl
theorem lastf4:(namedTie Tryz.prog Rows.changeLastRow.named Rows.changeLastSpec.vars) = true:=by kernel_rfl
theorem lastf5:((Rows.changeLastRow.stops == [])) = true:=by kernel_rfl
theorem lastf6:((Tryz.prog.stops == [])) = true:=by kernel_rfl
theorem lastf7:((Rows.changeLastRow.knobs == [])) = true:=by kernel_rfl
theorem lastf8:((Tryz.prog.stopKnobs == [])) = true:=by kernel_rfl
theorem lastf9:((Rows.changeLastRow.inPlace == Tryz.prog.inPlace 3)) = true:=by kernel_rfl
theorem lastf10:((Rows.changeLastRow.unfollowed == Tryz.prog.unfollowed 3)) = true:=by kernel_rfl
theorem lastf11:((Rows.changeLastRow.recurses == Tryz.prog.recurses 3)) = true:=by kernel_rfl
theorem lastf12:((Rows.changeLastRow.named == Tryz.prog.varsNamed 3)) = true:=by kernel_rfl
theorem lastf13:((Rows.changeLastRow.maps == (Tryz.f3.params.toList ++ Rows.changeLastSpec.plain.varTypes Tryz.prog).any (Tryz.prog.mapsRec ·))) = true:=by kernel_rfl
theorem lastf14:((Rows.changeLastRow.ifaces == (Tryz.f3.params.toList ++ Rows.changeLastSpec.plain.varTypes Tryz.prog).any (Tryz.prog.ifacesRec ·))) = true:=by kernel_rfl
theorem lastf15:((Rows.changeLastRow.mapsOut == Tryz.prog.mapsAmong Tryz.f3.resultTypes.toList)) = true:=by kernel_rfl
theorem lastf16:((Rows.changeLastRow.loops == (Tryz.f3.params.toList ++ Rows.changeLastSpec.plain.varTypes Tryz.prog).any (Tryz.prog.loopsFrom ·))) = true:=by kernel_rfl
theorem lastf17:((Rows.changeLastRow.wideKeys == (Tryz.f3.params.toList ++ Rows.changeLastSpec.plain.varTypes Tryz.prog ++ Tryz.f3.resultTypes.toList).any (Tryz.prog.wideKeysFrom ·))) = true:=by kernel_rfl
theorem lastf18:(Rows.changeLastSpec.vars.all (Tryz.prog.varReadable ·)) = true:=by kernel_rfl
theorem lastf19:(Tryz.f3.resultTypes.all (fun t=>Tryz.prog.readableRec t && decide (t < Tryz.prog.types.size))) = true:=by kernel_rfl
theorem lastf20:((Rows.changeLastRow.ifacesOut == Tryz.f3.resultTypes.toList.any (Tryz.prog.ifacesRec ·))) = true:=by kernel_rfl
theorem lastf21:((Rows.changeLastRow.loopsOut == Tryz.f3.resultTypes.toList.any (Tryz.prog.loopsFrom ·))) = true:=by kernel_rfl
theorem lastf22:((Rows.changeLastRow.plainKeys == Tryz.prog.plainKeys)) = true:=by kernel_rfl
theorem lastf23:(Rows.changeLastRow.shortTexts.isNone) = true:=by kernel_rfl
theorem lastf24:(Tryz.prog.stopsHeard) = true:=by kernel_rfl
theorem lastf25:(Tryz.prog.mayEnter) = true:=by kernel_rfl
theorem lastf26:((Rows.changeLastRow.lifted == Tryz.prog.liftsFinal)) = true:=by kernel_rfl
theorem lastf27:((Tryz.prog.make == some Rows.changeLastRow.make)) = true:=by kernel_rfl
theorem lastf28:((Rows.changeLastRow.kinds == (if Rows.changeLastRow.domain.isEmpty then [] else Tryz.f3.params.toList.map fun t=>match Tryz.prog.underlying t with | some (.int k)=>some k | _=>none))) = true:=by kernel_rfl
theorem lastf29:((Rows.changeLastRow.pinned == Rows.changeLastRow.pinnedBy)) = true:=by kernel_rfl
theorem lastf30:((Rows.changeLastRow.veiled == (Tryz.f3.params.toList ++ Rows.changeLastSpec.plain.varTypes Tryz.prog ++ Tryz.f3.resultTypes.toList).any (Tryz.prog.veiledRec ·))) = true:=by kernel_rfl
theorem lastf31:(Rows.changeLastRow.veiledFits Tryz.prog Tryz.f3.params.toList (Tryz.f3.params.toList ++ Rows.changeLastSpec.plain.varTypes Tryz.prog ++ Tryz.f3.resultTypes.toList)) = true:=by kernel_rfl
set_option maxRecDepth 1000000 in
theorem lastfacts:joinedFacts Tryz.prog 3 Tryz.f3 Rows.changeLastSpec Rows.changeLastRow = true:=@Go.Am.joined_of Tryz.prog 3 Tryz.f3 Rows.changeLastSpec Rows.changeLastRow lastf0 lastf1 lastf2 lastf3 lastf4 lastf5 lastf6 lastf7 lastf8 lastf9 lastf10 lastf11 lastf12 lastf13 lastf14 lastf15 lastf16 lastf17 lastf18 lastf19 lastf20 lastf21 lastf22 lastf23 lastf24 lastf25 lastf26 lastf27 lastf28 lastf29 lastf30 lastf31
end Go.Proofs.YtaogphcjlkeakaaGreatDoor
end
