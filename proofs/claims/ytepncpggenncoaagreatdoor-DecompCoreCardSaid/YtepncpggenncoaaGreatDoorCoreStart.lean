import Derived.Test.YtepncpggenncoaaGreatDoorFirst
import Derived.Test.YtepncpggenncoaaGreatDoorCoreEnv
import Derived.Test.YtepncpggenncoaaGreatDoorAm15
import Derived.Carry
import Derived.ChangeSlices
import Derived.Test.YtepncpggenncoaaGreatDoorTie
import Derived.Test.YtepncpggenncoaaGreatDoorCards
import Derived.WalkKit
import Derived.ProofKit
import Derived.OpenShut
import Derived.LaidMore
import Derived.Lay
import Derived.SevenTiedAt
import Derived.Stop.Joined
import Derived.JoinedCond
import Derived.Deep.DeepHandedRow
set_option linter.all false
set_option maxHeartbeats 8000000
namespace Go.Proofs.YtepncpggenncoaaGreatDoor
open Go.ChangeShapes Go.WideShapes Go.ChangeAt Go.RowKit Go.Am
theorem own:ownKnob Tryz.prog.godebug=none:=by kernel_rfl
abbrev laidL:List (String×DataW Unit):=Rows.decompCoreRow.laid
def crcZ:List Int:=[0,79764919,159529838,222504665,319059676,398814059,445009330,507990021,638119352,583659535,797628118,726387553,890018660,835552979,1015980042,944750013]
def bruZ:List Int:=[0,1,56,2,57,49,28,3,61,58,42,50,38,29,17,4,62,47,59,36,45,43,51,22,53,39,33,30,24,18,12,5,63,55,48,27,60,41,37,16,46,35,44,21,52,32,23,11,54,26,40,15,34,20,31,10,25,14,19,9,13,8,7,6]
def shapeZ:List (List UInt8×Int):=[([109,97,110,105,102,101,115,116],0),([99,111,114,101],1),([111,114,100,101,114],1),([110,101,115,116],1),([99,107,112,116],1),([115],2),([120],2),([120],3)]
def tabs:List (Nat×List AVal):=[(4,crcZ.map (AVal.int .u32)),(3,bruZ.map (AVal.int .u8)),(0,z8f shapeZ)]
theorem start{W:World}(hL:laidMetH Tryz.prog laidL W) :(∀ q∈tabs,q.1<z1m.ng/\Lies W q.1 q.2/\q.2.all j72=true)/\z1m.ng<=W.heap.size/\∃ arr e fz,W.heap[0]? = some (.cells arr e fz):=by
 rw[MakeChecks.laidMetH_plain _ _ _ (by kernel_rfl)]at hL
 have h1:=(j5c (name:= "pith/crc.table") (k:=.u32) (zs:=crcZ) hL (List.mem_of_getElem? (i:=3) (by kernel_rfl)) (g:=4) (t:=450) (e:=84) (n:=16) (by kernel_rfl) (by kernel_rfl) (by kernel_rfl) (by kernel_rfl) (by kernel_rfl) (by kernel_rfl)).1
 have h5:=(j5c (name:= "math/bits.deBruijn64tab") (k:=.u8) (zs:=bruZ) hL (List.mem_of_getElem? (i:=1) (by kernel_rfl)) (g:=3) (t:=443) (e:=5) (n:=64) (by kernel_rfl) (by kernel_rfl) (by kernel_rfl) (by kernel_rfl) (by kernel_rfl) (by kernel_rfl)).1
 have h0:=y4i (name:= "pith/manifest.shapes") (ss:=shapeZ) hL (List.mem_of_getElem? (i:=7) (by kernel_rfl)) (g:=0) (t:=403) (e:=402) (n:=8) (by kernel_rfl) (by kernel_rfl) Tryz.underlying403 Tryz.underlying402 (by kernel_rfl) (by kernel_rfl) rfl rfl (by kernel_rfl) (by kernel_rfl) (by kernel_rfl) (by kernel_rfl)
 have h9:10<=W.heap.size:=by
  obtain⟨ps,hv,_⟩:=hL
  obtain⟨g,t,cs,fuel,p,hg,_,hv,_⟩:=j0t (n:= "unicode/utf8.acceptRanges") (d:=Rows.laid_unicode_utf8_acceptRanges) hv (List.mem_of_getElem? (i:=4) (by kernel_rfl))
  obtain rfl:=Option.some.inj ((show Tryz.prog.globalNamed "unicode/utf8.acceptRanges" = some 9 by kernel_rfl).symm.trans hg)
  obtain⟨e,fz,hb⟩:=z41 hg hv
  have:=(Array.getElem?_eq_some_iff.1 hb).1
  omega
 refine⟨?_,h9,?_⟩
 .intro q hq
  simp only[tabs,List.mem_cons,List.not_mem_nil,or_false]at hq
  rcases hq with rfl | rfl | rfl
  .exact⟨by show(4:Nat)<10;decide,h1,by kernel_rfl⟩
  .exact⟨by show(3:Nat)<10;decide,h5,by kernel_rfl⟩
  .exact⟨by show(0:Nat)<10;decide,h0,by kernel_rfl⟩
 .obtain⟨arr,e,fz,hb,_⟩:=h0
  exact⟨arr,e,fz,hb⟩
theorem hp0_tabs:hp0=tabH z1m.ng tabs:=y9j _ _ (by kernel_rfl)
theorem firstS{W:World}(hL:laidMetH Tryz.prog laidL W) :z0f (lawEnv W.heap.size) 4 [] (absH W) (.bool true) (absH W):=by
 obtain⟨h1,h2,_⟩:=start hL
 refine first_call (j51 (objs:=tabs) (h1:=memL.h1) h2 (by show(10:Nat)<_;decide) h1 rfl fun φ w hH=>?_)
 rw[<-hp0_tabs]at hH ⊢
 exact q2g hH
theorem cells3:Tryz.prog.cellsOf 3=1:=by kernel_rfl
theorem laidOut:laidOutB Tryz.prog=true:=by kernel_rfl
theorem tabOk{W:World}(hL:laidMetH Tryz.prog laidL W) :Tab (absH W):=by
 obtain⟨_,hng,_⟩:=start hL
 have hng:10<=W.heap.size:=hng
 rw[MakeChecks.laidMetH_plain _ _ _ (by kernel_rfl)]at hL
 have h1:=(j5c (name:= "pith/crc.table") (k:=.u32) (zs:=crcZ) hL (List.mem_of_getElem? (i:=3) (by kernel_rfl)) (g:=4) (t:=450) (e:=84) (n:=16) (by kernel_rfl) (by kernel_rfl) (by kernel_rfl) (by kernel_rfl) (by kernel_rfl) (by kernel_rfl)).2
 have hg:Tryz.prog.globalNamed "pith/crc.table" = some 4:=by kernel_rfl
 obtain⟨e,fz,hc⟩:=z41 hg h1
 have h2:=j6b hc
 refine⟨⟨false,true,?_⟩,?_⟩
 .refine h2.trans ?_
  refine congrArg (fun l=>some (AObj.cells l false true)) ?_
  rfl
 .show 5<_
  rw[j6a]
  omega
theorem cells_slice(A:Option Addr)(len cap:Nat) :(Value.slice A len cap).cells.toList=[.slice A len cap]:=by simp[Value.cells]
theorem absA_slice(n:Nat)(A:Option Addr)(len cap:Nat) :absA n (.slice A len cap)=absV n (.slice A len cap):=rfl
theorem walk{H:Type}{enc:TypeId×Value->H}{d0 d5:DataW H}{p0 p5:List MemPlace}{A0 A5:Option Addr}{l0 c0 l5 c5:Nat}(n kd at':Int)(x:Nat)(hx:x<256)(W:World)(hL:laidMetH Tryz.prog laidL W)(h0:DataW.Trod enc Tryz.prog W 0 (fun _=>true) true 22 (.slice A0 l0 c0) d0 p0)(h5:DataW.Trod enc Tryz.prog W 0 (fun _=>true) true 22 (.slice A5 l5 c5) d5 p5) :
  Calls Tryz.prog 3 #[.slice A0 l0 c0,.int .i64 n,.int .i64 kd,.int .i64 at',.int .u8 (.ofNat x),.slice A5 l5 c5] W fun e W'=>e=.returned (.bool true)/\Below W.heap.size W W':=by
 obtain⟨_,hng,hz⟩:=start hL
 obtain⟨f0,h0⟩:=h0
 obtain⟨f5,h5⟩:=h5
 rw[cells_slice]at h0 h5
 obtain⟨zs,r0,_,_⟩:=j3j Tryz.underlying22 Tryz.underlying3 cells3 hz h0
 obtain⟨ws,r5,_,_⟩:=j3j Tryz.underlying22 Tryz.underlying3 cells3 hz h5
 have r0:=r0.rd lr
 have r5:=r5.rd lr
 rw[List.length_map]at r0 r5
 obtain⟨H',hc⟩:=k2z (ckS W.heap.size) (H:=absH W) (n:=n) (kd:=kd) (at':=at') (x:=x) r0 r5 hx (tabOk hL) (firstS hL)
 exact y8e (E:=lawEnv W.heap.size) z2v (lawEnv_ok _) z8k hng (by show(10:Nat)<_;decide) (lawEnv_sums _ _ rfl) (by
  simp only[List.map_cons,List.map_nil,absA_slice]
  exact hc)
set_option maxRecDepth 100000 in
theorem lifted(os:Os)(started:os.Started)(H:Type)(enc:TypeId×Value->H) :
  ReturnsInHanded {} Tryz.checked os 3 .any (fun w args=>(Rows.decompCoreSpec.pre enc Tryz.prog Tryz.f3 Rows.decompCoreRow.domain false w args/\laidMetH Tryz.prog laidL w)/\sizedMet enc Tryz.prog Tryz.f3 (OpenSpec.ofChange Rows.decompCoreSpec) false w args)
   (Rows.decompCoreSpec.post enc Tryz.prog Tryz.f3 false true false false):=by
 refine returnsInHanded_of_change_and (C:=Tryz.checked) (X:=fun w _=>laidMetH Tryz.prog laidL w) (fun _ _ _ hh h=>h.of_heap hh) own started (by kernel_rfl) Tryz.func3
  (ChangeSpec.witness_shaped (enc:=enc) (C:=Tryz.checked) (os:=os) (X:=fun w _=>laidMetH Tryz.prog laidL w) false (World.laidAll Tryz.prog os laidL) #[.slice none 0 0,.int .i64 0,.int .i64 0,.int .i64 0,.int .u8 0,.slice none 0 0] 8 (World.laidAll_os _ _ _)
   (World.shaped_of_ZipB (by kernel_rfl) (by kernel_rfl)) (by kernel_rfl) (by kernel_rfl) (by kernel_rfl)
   (by rw[MakeChecks.laidMetH_plain _ _ _ (by kernel_rfl)];exact laidMet_laidAll _ (by kernel_rfl) (by kernel_rfl))) ?_
 intro W base args ds gs before hval0 hW hc _ hL _
 have hval:∀ (j:Nat) t v,Tryz.f3.params[j]? = some t->args[j]? = some v->Value.okWide Tryz.prog W .any base t v:=hval0
 have hW':=hW
 obtain⟨p,q,hA0,hV,rfl,_,_⟩:=hW
 have hA:DataW.TrodAll enc Tryz.prog W 0 (fun _=>true) true Tryz.f3.params.toList args.toList ds p:=hA0
 rw[Tryz.params3]at hA hval
 obtain⟨v0,vs0,d0,ds0,p0,q0,hargs,rfl,rfl,h0,r0⟩:=trodAll_cons hA
 obtain⟨v1,vs1,d1,ds1,p1,q1,rfl,rfl,rfl,h1,r1⟩:=trodAll_cons r0
 obtain⟨v2,vs2,d2,ds2,p2,q2,rfl,rfl,rfl,h2,r2⟩:=trodAll_cons r1
 obtain⟨v3,vs3,d3,ds3,p3,q3,rfl,rfl,rfl,h3,r3⟩:=trodAll_cons r2
 obtain⟨v4,vs4,d4,ds4,p4,q4,rfl,rfl,rfl,h4,r4⟩:=trodAll_cons r3
 obtain⟨v5,vs5,d5,ds5,p5,q5,rfl,rfl,rfl,h5,r5⟩:=trodAll_cons r4
 obtain⟨rfl,rfl,rfl⟩:=trodAll_nil r5
 obtain rfl:args=#[v0,v1,v2,v3,v4,v5]:=by cases args;simp_all
 obtain⟨rfl,rfl⟩:=trodVars_none hV
 obtain⟨A0,l0,c0,rfl⟩:=okWide_slice Tryz.underlying22 (hval 0 22 v0 rfl rfl)
 obtain⟨a1,rfl,rfl,rfl,w1⟩:=open_int Tryz.underlying3 (hval 1 3 v1 rfl rfl) h1
 obtain⟨a2,rfl,rfl,rfl,w2⟩:=open_int Tryz.underlying3 (hval 2 3 v2 rfl rfl) h2
 obtain⟨a3,rfl,rfl,rfl,w3⟩:=open_int Tryz.underlying3 (hval 3 3 v3 rfl rfl) h3
 obtain⟨a4,rfl,rfl,rfl,w4⟩:=open_int Tryz.underlying5 (hval 4 5 v4 rfl rfl) h4
 obtain⟨A5,l5,c5,rfl⟩:=okWide_slice Tryz.underlying22 (hval 5 22 v5 rfl rfl)
 have b4:=bounds_u8 w4
 obtain⟨x,rfl⟩:=Int.eq_ofNat_of_zero_le b4.1
 have hx:x<256:=by omega
 clear hA0 hval0
 simp only[List.append_nil,List.nil_append]at hW'
 have hlt:∀ x∈p0++p5,x.block<W.heap.size:=fun x hx=>by simpa using hW'.lt x (by simpa using hx)
 refine(walk a1 a2 a3 x hx W hL h0 h5).mono fun e W' ⟨he,hb⟩=>?_
 subst he
 have hstay:∀ {t:TypeId} {v:Value} {d:DataW H} {p:List MemPlace} (sp:Nat->Bool),DataW.Trod enc Tryz.prog W 0 (fun _=>true) true t v d p->decide (t<Tryz.prog.types.size)=true->Tryz.prog.readableRec t=true->(∀ x∈p,x.block<W.heap.size)->(∀ x∈p,sp x.block=true)->DataW.Trod enc Tryz.prog W' 0 sp true t v d p:=fun sp h ht hr hl hsp =>
  WideElems.Trod_stays laidOut hr (of_decide_eq_true ht) h (fun x hx=>hb.same (hl x hx)) hsp
 exact⟨_,rfl,j43 (pv:=[]) hW' (fun _ _ _=>trodAll_mk1 (shut_bool Tryz.underlying4 _)) (fun sp hsp=>(trodAll_cons_mk (hstay sp h0 (by kernel_rfl) (by kernel_rfl) (fun x hx=>hlt x (by simp[hx])) (fun x hx=>hsp x (by simp[hx]))) (trodAll_cons_mk (shut_int Tryz.underlying3 w1) (trodAll_cons_mk (shut_int Tryz.underlying3 w2) (trodAll_cons_mk (shut_int Tryz.underlying3 w3) (trodAll_cons_mk (shut_int Tryz.underlying5 w4) (trodAll_cons_mk (hstay sp h5 (by kernel_rfl) (by kernel_rfl) (fun x hx=>hlt x (by simp[hx])) (fun x hx=>hsp x (by simp[hx]))) trodAll_mk0))))))) (fun _ _=>rfl) (by simp)
  hb (ok_one (by kernel_rfl) rfl (okWide_bool_mk Tryz.underlying4 _))⟩
end Go.Proofs.YtepncpggenncoaaGreatDoor
