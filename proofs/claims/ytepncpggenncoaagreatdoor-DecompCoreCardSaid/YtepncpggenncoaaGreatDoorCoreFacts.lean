import Derived.JoinedOf
import Derived.Test.YtepncpggenncoaaGreatDoorRows
import Derived.KernelRfl
set_option linter.all false
set_option maxHeartbeats 8000000
section
namespace Go.Am
open Go
theorem joined_of{P:Program}{f:FuncId}{fn:Func}{s:ChangeSpec}{c:OpenClaim}
  (h0:(c.wf (OpenSpec.ofChange s))=true)
  (h1:(laidOutB P)=true)
  (h2:(mapsRowed P)=true)
  (h3:(fn.params.all (P.readableRec ·))=true)
  (h4:(namedTie P c.named s.vars)=true)
  (h5:(c.stops==[])=true)
  (h6:(P.stops==[])=true)
  (h7:(c.knobs==[])=true)
  (h8:(P.stopKnobs==[])=true)
  (h9:(c.inPlace==P.inPlace f)=true)
  (h10:(c.unfollowed==P.unfollowed f)=true)
  (h11:(c.recurses==P.recurses f)=true)
  (h12:(c.named==P.varsNamed f)=true)
  (h13:(c.maps==(fn.params.toList++s.plain.varTypes P).any (P.mapsRec ·))=true)
  (h14:(c.ifaces==(fn.params.toList++s.plain.varTypes P).any (P.ifacesRec ·))=true)
  (h15:(c.mapsOut==P.mapsAmong fn.resultTypes.toList)=true)
  (h16:(c.loops==(fn.params.toList++s.plain.varTypes P).any (P.loopsFrom ·))=true)
  (h17:(c.wideKeys==(fn.params.toList++s.plain.varTypes P++fn.resultTypes.toList).any (P.wideKeysFrom ·))=true)
  (h18:(s.vars.all (P.varReadable ·))=true)
  (h19:(fn.resultTypes.all (fun t=>P.readableRec t && decide (t<P.types.size)))=true)
  (h20:(c.ifacesOut==fn.resultTypes.toList.any (P.ifacesRec ·))=true)
  (h21:(c.loopsOut==fn.resultTypes.toList.any (P.loopsFrom ·))=true)
  (h22:(c.plainKeys==P.plainKeys)=true)
  (h23:(c.shortTexts.isNone)=true)
  (h24:(P.stopsHeard)=true)
  (h25:(P.mayEnter)=true)
  (h26:(c.lifted==P.liftsFinal)=true)
  (h27:(P.make==some c.make)=true)
  (h28:(c.kinds==(if c.domain.isEmpty then[]else fn.params.toList.map fun t=>match P.underlying t with | some (.int k)=>some k | _=>none))=true)
  (h29:(c.pinned==c.pinnedBy)=true)
  (h30:(c.veiled==(fn.params.toList++s.plain.varTypes P++fn.resultTypes.toList).any (P.veiledRec ·))=true)
  (h31:(c.veiledFits P fn.params.toList (fn.params.toList++s.plain.varTypes P++fn.resultTypes.toList))=true)
  : joinedFacts P f fn s c=true:=by
 unfold joinedFacts
 simp only[Bool.and_eq_true]
 exact⟨⟨⟨⟨⟨⟨⟨⟨⟨⟨⟨⟨⟨⟨⟨⟨⟨⟨⟨⟨⟨⟨⟨⟨⟨⟨⟨⟨⟨⟨⟨h0,h1⟩,h2⟩,h3⟩,h4⟩,h5⟩,h6⟩,h7⟩,h8⟩,h9⟩,h10⟩,h11⟩,h12⟩,h13⟩,h14⟩,h15⟩,h16⟩,h17⟩,h18⟩,h19⟩,h20⟩,h21⟩,h22⟩,h23⟩,h24⟩,h25⟩,h26⟩,h27⟩,h28⟩,h29⟩,h30⟩,h31⟩
end Go.Am
end
section
namespace Go.Proofs.YtepncpggenncoaaGreatDoor
open Go
theorem coref0:(Rows.decompCoreRow.wf (OpenSpec.ofChange Rows.decompCoreSpec))=true:=by kernel_rfl
theorem coref1:(laidOutB Tryz.prog)=true:=by kernel_rfl
theorem coref2:(mapsRowed Tryz.prog)=true:=by kernel_rfl
theorem coref3:(Tryz.f3.params.all (Tryz.prog.readableRec ·))=true:=by kernel_rfl
theorem coref4:(namedTie Tryz.prog Rows.decompCoreRow.named Rows.decompCoreSpec.vars)=true:=by kernel_rfl
theorem coref5:((Rows.decompCoreRow.stops==[]))=true:=by kernel_rfl
theorem coref6:((Tryz.prog.stops==[]))=true:=by kernel_rfl
theorem coref7:((Rows.decompCoreRow.knobs==[]))=true:=by kernel_rfl
theorem coref8:((Tryz.prog.stopKnobs==[]))=true:=by kernel_rfl
theorem coref9:((Rows.decompCoreRow.inPlace==Tryz.prog.inPlace 3))=true:=by kernel_rfl
theorem coref10:((Rows.decompCoreRow.unfollowed==Tryz.prog.unfollowed 3))=true:=by kernel_rfl
theorem coref11:((Rows.decompCoreRow.recurses==Tryz.prog.recurses 3))=true:=by kernel_rfl
theorem coref12:((Rows.decompCoreRow.named==Tryz.prog.varsNamed 3))=true:=by kernel_rfl
theorem coref13:((Rows.decompCoreRow.maps==(Tryz.f3.params.toList++Rows.decompCoreSpec.plain.varTypes Tryz.prog).any (Tryz.prog.mapsRec ·)))=true:=by kernel_rfl
theorem coref14:((Rows.decompCoreRow.ifaces==(Tryz.f3.params.toList++Rows.decompCoreSpec.plain.varTypes Tryz.prog).any (Tryz.prog.ifacesRec ·)))=true:=by kernel_rfl
theorem coref15:((Rows.decompCoreRow.mapsOut==Tryz.prog.mapsAmong Tryz.f3.resultTypes.toList))=true:=by kernel_rfl
theorem coref16:((Rows.decompCoreRow.loops==(Tryz.f3.params.toList++Rows.decompCoreSpec.plain.varTypes Tryz.prog).any (Tryz.prog.loopsFrom ·)))=true:=by kernel_rfl
theorem coref17:((Rows.decompCoreRow.wideKeys==(Tryz.f3.params.toList++Rows.decompCoreSpec.plain.varTypes Tryz.prog++Tryz.f3.resultTypes.toList).any (Tryz.prog.wideKeysFrom ·)))=true:=by kernel_rfl
theorem coref18:(Rows.decompCoreSpec.vars.all (Tryz.prog.varReadable ·))=true:=by kernel_rfl
theorem coref19:(Tryz.f3.resultTypes.all (fun t=>Tryz.prog.readableRec t && decide (t<Tryz.prog.types.size)))=true:=by kernel_rfl
theorem coref20:((Rows.decompCoreRow.ifacesOut==Tryz.f3.resultTypes.toList.any (Tryz.prog.ifacesRec ·)))=true:=by kernel_rfl
theorem coref21:((Rows.decompCoreRow.loopsOut==Tryz.f3.resultTypes.toList.any (Tryz.prog.loopsFrom ·)))=true:=by kernel_rfl
theorem coref22:((Rows.decompCoreRow.plainKeys==Tryz.prog.plainKeys))=true:=by kernel_rfl
theorem coref23:(Rows.decompCoreRow.shortTexts.isNone)=true:=by kernel_rfl
theorem coref24:(Tryz.prog.stopsHeard)=true:=by kernel_rfl
theorem coref25:(Tryz.prog.mayEnter)=true:=by kernel_rfl
theorem coref26:((Rows.decompCoreRow.lifted==Tryz.prog.liftsFinal))=true:=by kernel_rfl
theorem coref27:((Tryz.prog.make==some Rows.decompCoreRow.make))=true:=by kernel_rfl
theorem coref28:((Rows.decompCoreRow.kinds==(if Rows.decompCoreRow.domain.isEmpty then[]else Tryz.f3.params.toList.map fun t=>match Tryz.prog.underlying t with | some (.int k)=>some k | _=>none)))=true:=by kernel_rfl
theorem coref29:((Rows.decompCoreRow.pinned==Rows.decompCoreRow.pinnedBy))=true:=by kernel_rfl
theorem coref30:((Rows.decompCoreRow.veiled==(Tryz.f3.params.toList++Rows.decompCoreSpec.plain.varTypes Tryz.prog++Tryz.f3.resultTypes.toList).any (Tryz.prog.veiledRec ·)))=true:=by kernel_rfl
theorem coref31:(Rows.decompCoreRow.veiledFits Tryz.prog Tryz.f3.params.toList (Tryz.f3.params.toList++Rows.decompCoreSpec.plain.varTypes Tryz.prog++Tryz.f3.resultTypes.toList))=true:=by kernel_rfl
set_option maxRecDepth 1000000 in
theorem corefacts:joinedFacts Tryz.prog 3 Tryz.f3 Rows.decompCoreSpec Rows.decompCoreRow=true:=@Go.Am.joined_of Tryz.prog 3 Tryz.f3 Rows.decompCoreSpec Rows.decompCoreRow coref0 coref1 coref2 coref3 coref4 coref5 coref6 coref7 coref8 coref9 coref10 coref11 coref12 coref13 coref14 coref15 coref16 coref17 coref18 coref19 coref20 coref21 coref22 coref23 coref24 coref25 coref26 coref27 coref28 coref29 coref30 coref31
end Go.Proofs.YtepncpggenncoaaGreatDoor
end
