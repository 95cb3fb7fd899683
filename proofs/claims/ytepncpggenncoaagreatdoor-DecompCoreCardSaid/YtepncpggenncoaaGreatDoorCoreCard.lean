/- Cores, a damaged manifest, a cut play: the two file systems answer alike, whatever the input. -/
import Derived.Test.YtepncpggenncoaaGreatDoorCoreStart
import Derived.Test.YtepncpggenncoaaGreatDoorCoreFacts
set_option linter.all false
set_option maxHeartbeats 8000000
namespace Go.Proofs.YtepncpggenncoaaGreatDoor
open Go.ChangeShapes Go.WideShapes Go.ChangeAt Go.RowKit Go.Am
theorem hnamed:Tryz.prog.funcNamed "pith/pithlaw19.DecompCore" = some 3:=by kernel_rfl
theorem holds:Rows.DecompCoreSaid :=
 OpenClaim.holds_of_wide 3 Tryz.f3 rfl rfl rfl rfl rfl rfl rfl ⟨rfl,rfl,rfl,rfl,rfl⟩ rfl rfl rfl rfl rfl hnamed Tryz.func3 corefacts
  (of_decide_eq_true (by kernel_rfl)) (by unfold Func.isWrapper;first | (rw[if_pos (by decide +kernel)];kernel_rfl) | (rw[if_neg (by decide +kernel)];exact⟨rfl,rfl⟩))
  (fun os started H enc _=>lifted os started H enc)
theorem no_go:Tryz.prog.funcs.toList.any Func.goes=false:=by kernel_rfl
theorem goes_none{P:Program}{f:FuncId}(h:P.funcs.toList.any Func.goes=false) :P.goes f=false:=by
 have h1:∀ fn∈P.funcs.toList,Func.goes fn=false:=fun fn hf=>by
  cases hg:Func.goes fn with
  | false=>rfl
  | true=>exact absurd (List.any_eq_true.2 ⟨fn,hf,hg⟩) (by rw[h];simp)
 have h2:P.funcs.any Func.goes=false:=by rw[<-h,Array.any_toList]
 unfold Program.goes
 rw[h2,Bool.and_false,Bool.or_false,List.any_eq_false]
 intro g _
 cases hg:P.funcs[g]? with
 | none=>simp
 | some fn=>simp[h1 fn (by simpa using Array.mem_of_getElem? hg)]
theorem goesBy_none{P:Program}{c:OpenClaim}(hs:c.start=.entering)(h:P.funcs.toList.any Func.goes=false) :false=c.goesBy P:=by
 unfold OpenClaim.goesBy Program.goesAt Program.goesFrom
 rw[hs]
 cases P.funcNamed c.func with
 | none=>rfl
 | some f=>simp[goes_none h]
theorem card_hg:false=Rows.decompCoreRow.goesBy Tryz.pinned.checked.prog:=goesBy_none rfl no_go
theorem card_hw:Rows.decompCoreRow.wfByText (OpenSpec.ofChange Rows.decompCoreSpec)=true:=by kernel_rfl
theorem card_hm:Tryz.pinned.checked.prog.mainIs=some (true,"cbd1de9fb91ec8626ca0c40348e98a0fc33aa1b1dff2c0eb952abbe51537077d".toList):=by kernel_rfl
theorem card_hlk:true=Tryz.pinned.checked.prog.looks []:=by kernel_rfl
theorem card_hst:([22,3,3,3,5,22].all fun u=>!Tryz.pinned.checked.prog.wantsStandIn u)=true:=by kernel_rfl
theorem card_hl:∀ f fn,Tryz.pinned.checked.prog.funcNamed Rows.decompCoreRow.func=some f->Tryz.pinned.checked.prog.funcs[f]? = some fn->true=Tryz.pinned.checked.prog.looks []/\∀ (j:Nat) t,fn.params[j]? = some t->Tryz.pinned.checked.prog.wantsStandIn t=false:=fun f fn hf hfn=>by
 obtain rfl:f=3:=Option.some.inj (hnamed.symm.trans hf) |>.symm
 obtain rfl:fn=Tryz.f3:=(Option.some.inj (Tryz.func3.symm.trans hfn)).symm
 exact⟨card_hlk,fun j t ht=>by
  rw[Tryz.params3]at ht
  have hm:t∈[22,3,3,3,5,22]:=by simpa using Array.mem_of_getElem? ht
  exact(by simpa using List.all_eq_true.1 card_hst t hm)⟩
theorem card_holds:Rows.DecompCoreCardSaid :=
 Claim7.holds_tied_plain_at .later [] [.data,.data,.data,.data,.data,.sentinel,.sentinel,.widerDeep,.pinned] true (true,"cbd1de9fb91ec8626ca0c40348e98a0fc33aa1b1dff2c0eb952abbe51537077d") true holds (fun _ h=>by cases h) card_hw (fun _ h=>by cases h) decompCore_row_tie rfl ⟨rfl,rfl⟩ card_hm rfl card_hl card_hg
#print axioms card_holds
end Go.Proofs.YtepncpggenncoaaGreatDoor
