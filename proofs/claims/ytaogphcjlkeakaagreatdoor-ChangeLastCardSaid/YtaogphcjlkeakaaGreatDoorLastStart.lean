/- Part of the proof: AmLastStart. -/
import Derived.Test.YtaogphcjlkeakaaGreatDoorFirst
import Derived.Test.YtaogphcjlkeakaaGreatDoorLastEnv
import Derived.Carry
import Derived.ChangeSlices
import Derived.Test.YtaogphcjlkeakaaGreatDoorTie
import Derived.Test.YtaogphcjlkeakaaGreatDoorCards
import Derived.WalkKit
import Derived.ProofKit
import Derived.OpenShut
import Derived.LaidMore
import Derived.Lay
import Derived.SevenTiedAt
import Derived.Stop.Joined
import Derived.JoinedCond
import Derived.Deep.DeepHandedRow
set_option linter.unusedSimpArgs false
set_option linter.unusedVariables false
section
namespace Go.Proofs.YtaogphcjlkeakaaGreatDoor
open Go.ChangeShapes Go.WideShapes Go.ChangeAt Go.RowKit Go.Am
theorem own:ownKnob Tryz.prog.godebug = none:=by kernel_rfl
abbrev laidL:List (String × DataW Unit):=Rows.changeLastRow.laid
def crcZ:List Int:=[0,79764919,159529838,222504665,319059676,398814059,445009330,507990021,638119352,583659535,797628118,726387553,890018660,835552979,1015980042,944750013]
def bruZ:List Int:=[0,1,56,2,57,49,28,3,61,58,42,50,38,29,17,4,62,47,59,36,45,43,51,22,53,39,33,30,24,18,12,5,63,55,48,27,60,41,37,16,46,35,44,21,52,32,23,11,54,26,40,15,34,20,31,10,25,14,19,9,13,8,7,6]
def shapeZ:List (List UInt8 × Int):=[([109,97,110,105,102,101,115,116],0),([99,111,114,101],1),([111,114,100,101,114],1),([110,101,115,116],1),([99,107,112,116],1),([115],2),([120],2),([120],3)]
def tabs:List (Nat × List AVal):=[(5,crcZ.map (AVal.int .u32)),(7,bruZ.map (AVal.int .u8)),(0,pairCells shapeZ)]
theorem start {W:World} (hL:laidMetH Tryz.prog laidL W) :(∀ q ∈ tabs,q.1 < theTys.ng∧Lies W q.1 q.2∧q.2.all flatV = true)∧theTys.ng≤W.heap.size∧∃ arr e fz,W.heap[0]? = some (.cells arr e fz):=by
 rw [MakeChecks.laidMetH_plain _ _ _ (by kernel_rfl)] at hL
 have h1:=(lies_tab (name:= "pith/crc.table") (k:=.u32) (zs:=crcZ) hL (List.mem_of_getElem? (i:=3) (by kernel_rfl)) (g:=5) (t:=465) (e:=112) (n:=16) (by kernel_rfl) (by kernel_rfl) (by kernel_rfl) (by kernel_rfl) (by kernel_rfl) (by kernel_rfl)).1
 have h5:=(lies_tab (name:= "math/bits.deBruijn64tab") (k:=.u8) (zs:=bruZ) hL (List.mem_of_getElem? (i:=1) (by kernel_rfl)) (g:=7) (t:=467) (e:=5) (n:=64) (by kernel_rfl) (by kernel_rfl) (by kernel_rfl) (by kernel_rfl) (by kernel_rfl) (by kernel_rfl)).1
 have h0:=lies_pairs (name:= "pith/manifest.shapes") (ss:=shapeZ) hL (List.mem_of_getElem? (i:=7) (by kernel_rfl)) (g:=0) (t:=337) (e:=336) (n:=8) (by kernel_rfl) (by kernel_rfl) Tryz.underlying337 Tryz.underlying336 (by kernel_rfl) (by kernel_rfl) rfl rfl (by kernel_rfl) (by kernel_rfl) (by kernel_rfl) (by kernel_rfl)
 have h9:10≤W.heap.size:=by
  obtain ⟨ps,hv,_⟩:=hL
  obtain ⟨g,t,cs,fuel,p,hg,_,hv,_⟩:=laid_row (n:= "unicode/utf8.acceptRanges") (d:=Rows.laid_unicode_utf8_acceptRanges) hv (List.mem_of_getElem? (i:=4) (by kernel_rfl))
  obtain rfl:=Option.some.inj ((show Tryz.prog.globalNamed "unicode/utf8.acceptRanges" = some 9 by kernel_rfl).symm.trans hg)
  obtain ⟨e,fz,hb⟩:=block_of_var hg hv
  have:=(Array.getElem?_eq_some_iff.1 hb).1
  omega
 refine ⟨?_,h9,?_⟩
 ·intro q hq
  simp only [tabs,List.mem_cons,List.not_mem_nil,or_false] at hq
  rcases hq with rfl | rfl | rfl
  ·exact ⟨by show (5:Nat) < 10; decide,h1,by kernel_rfl⟩
  ·exact ⟨by show (7:Nat) < 10; decide,h5,by kernel_rfl⟩
  ·exact ⟨by show (0:Nat) < 10; decide,h0,by kernel_rfl⟩
 ·obtain ⟨arr,e,fz,hb,_⟩:=h0
  exact ⟨arr,e,fz,hb⟩
theorem hp0_tabs:hp0 = tabH theTys.ng tabs:=eqvH_eq _ _ (by kernel_rfl)
theorem firstS {W:World} (hL:laidMetH Tryz.prog laidL W) :CallS (lawEnv W.heap.size) 4 [] (absH W) (.bool true) (absH W):=by
 obtain ⟨h1,h2,_⟩:=start hL
 refine first_call (closed_oracle (objs:=tabs) (h1:=memL.h1) h2 (by show (10:Nat) < _; decide) h1 rfl fun φ w hH=>?_)
 rw [← hp0_tabs] at hH ⊢
 exact first_ok hH
theorem cells3:Tryz.prog.cellsOf 3 = 1:=by kernel_rfl
theorem cells4:Tryz.prog.cellsOf 4 = 1:=by kernel_rfl
theorem cells73:Tryz.prog.cellsOf 73 = 2:=by kernel_rfl
theorem cells32:Tryz.prog.cellsOf 32 = 3:=by kernel_rfl
theorem laidOut:laidOutB Tryz.prog = true:=by kernel_rfl
end Go.Proofs.YtaogphcjlkeakaaGreatDoor
end
