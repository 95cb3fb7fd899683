/- The statement ChangeLast (its tied card): for every number of vertices, every list of pairs, every list of changes, every vertex and every list of neighbours, the law's call answers true, that is, the document's example goes as it says, the net changes of the net changes are the net changes and rise, Merge of them is Merge of all, Changed of them lays the same graph as Changed of all, and each vertex's merged neighbours are those of the changed graph. Conditions: the package variables that the row lists hold at the start what the program's text lays in them (the card ties them); no other. -/
import Derived.Test.YtaogphcjlkeakaaGreatDoorLastLift
import Derived.Test.YtaogphcjlkeakaaGreatDoorLastFacts
set_option linter.unusedSimpArgs false
set_option linter.unusedVariables false
section
namespace Go.Proofs.YtaogphcjlkeakaaGreatDoor
open Go.ChangeShapes Go.WideShapes Go.ChangeAt Go.RowKit Go.Am
theorem hnamed:Tryz.prog.funcNamed "pith/pithlaw23.ChangeLast" = some 3:=by kernel_rfl
theorem holds:Rows.ChangeLastSaid :=
 OpenClaim.holds_of_wide 3 Tryz.f3 rfl rfl rfl rfl rfl rfl rfl ⟨rfl,rfl,rfl,rfl,rfl⟩ rfl rfl rfl rfl rfl hnamed Tryz.func3 lastfacts
  (of_decide_eq_true (by kernel_rfl)) (by unfold Func.isWrapper; first | (rw [if_pos (by decide +kernel)]; kernel_rfl) | (rw [if_neg (by decide +kernel)]; exact ⟨rfl,rfl⟩))
  (fun os started H enc _=>lifted os started H enc)
theorem no_go:Tryz.prog.funcs.toList.any Func.goes = false:=by kernel_rfl
theorem goes_none {P:Program} {f:FuncId} (h:P.funcs.toList.any Func.goes = false) :P.goes f = false:=by
 have h1:∀ fn ∈ P.funcs.toList,Func.goes fn = false:=fun fn hf=>by
  cases hg:Func.goes fn with
  | false=>rfl
  | true=>exact absurd (List.any_eq_true.2 ⟨fn,hf,hg⟩) (by rw [h]; simp)
 have h2:P.funcs.any Func.goes = false:=by rw [← h,Array.any_toList]
 unfold Program.goes
 rw [h2,Bool.and_false,Bool.or_false,List.any_eq_false]
 intro g _
 cases hg:P.funcs[g]? with
 | none=>simp
 | some fn=>simp [h1 fn (by simpa using Array.mem_of_getElem? hg)]
theorem goesBy_none {P:Program} {c:OpenClaim} (hs:c.start = .entering) (h:P.funcs.toList.any Func.goes = false) :false = c.goesBy P:=by
 unfold OpenClaim.goesBy Program.goesAt Program.goesFrom
 rw [hs]
 cases P.funcNamed c.func with
 | none=>rfl
 | some f=>simp [goes_none h]
theorem card_hg:false = Rows.changeLastRow.goesBy Tryz.pinned.checked.prog:=goesBy_none rfl no_go
theorem card_hw:Rows.changeLastRow.wfByText (OpenSpec.ofChange Rows.changeLastSpec) = true:=by kernel_rfl
theorem card_hm:Tryz.pinned.checked.prog.mainIs = some (true,"8c151f5b9113e5d28c522710743d8ad603da11e5c5f24fb2482ef91835ee0bb3".toList):=by kernel_rfl
theorem card_hlk:true = Tryz.pinned.checked.prog.looks []:=by kernel_rfl
theorem card_hst:([3,22,23,3,24].all fun u=>!Tryz.pinned.checked.prog.wantsStandIn u) = true:=by kernel_rfl
theorem card_hl:∀ f fn,Tryz.pinned.checked.prog.funcNamed Rows.changeLastRow.func = some f→Tryz.pinned.checked.prog.funcs[f]? = some fn→true = Tryz.pinned.checked.prog.looks []∧∀ (j:Nat) t,fn.params[j]? = some t→Tryz.pinned.checked.prog.wantsStandIn t = false:=fun f fn hf hfn=>by
 obtain rfl:f = 3:=Option.some.inj (hnamed.symm.trans hf) |>.symm
 obtain rfl:fn = Tryz.f3:=(Option.some.inj (Tryz.func3.symm.trans hfn)).symm
 exact ⟨card_hlk,fun j t ht=>by
  rw [Tryz.params3] at ht
  have hm:t ∈ [3,22,23,3,24]:=by simpa using Array.mem_of_getElem? ht
  exact (by simpa using List.all_eq_true.1 card_hst t hm)⟩
theorem card_holds:Rows.ChangeLastCardSaid :=
 Claim7.holds_tied_plain_at .later [] [.data,.data,.data,.data,.data,.sentinel,.sentinel,.widerDeep,.pinned] true (true,"8c151f5b9113e5d28c522710743d8ad603da11e5c5f24fb2482ef91835ee0bb3") true holds (fun _ h=>by cases h) card_hw (fun _ h=>by cases h) changeLast_row_tie rfl ⟨rfl,rfl⟩ card_hm rfl card_hl card_hg
#print axioms card_holds
end Go.Proofs.YtaogphcjlkeakaaGreatDoor
end
