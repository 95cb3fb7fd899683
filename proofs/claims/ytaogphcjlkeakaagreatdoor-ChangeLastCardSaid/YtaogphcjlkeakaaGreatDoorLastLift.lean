/- Part of the proof: AmLastLift. -/
import Derived.Test.YtaogphcjlkeakaaGreatDoorLastStart
set_option linter.unusedSimpArgs false
set_option linter.unusedVariables false
section
namespace Go.Proofs.YtaogphcjlkeakaaGreatDoor
open Go.ChangeShapes Go.WideShapes Go.ChangeAt Go.RowKit Go.Am
theorem cells_slice (A:Option Addr) (len cap:Nat) :(Value.slice A len cap).cells.toList = [.slice A len cap]:=by simp [Value.cells]
theorem absA_slice (n:Nat) (A:Option Addr) (len cap:Nat) :absA n (.slice A len cap) = absV n (.slice A len cap):=rfl
theorem intVals_map:∀ zs:List Int,zs.map (AVal.int .i64) = intVals zs
 | []=>rfl
 | z :: l=>by simp only [List.map_cons,intVals,intVals_map l]
theorem walk {H:Type} {enc:TypeId × Value→H} {d1 d2 d4:DataW H} {p1 p2 p4:List MemPlace} {A1 A2 A4:Option Addr} {l1 c1 l2 c2 l4 c4:Nat} (n v:Int) (W:World) (hL:laidMetH Tryz.prog laidL W) (h1:DataW.Trod enc Tryz.prog W 0 (fun _=>true) true 22 (.slice A1 l1 c1) d1 p1) (h2:DataW.Trod enc Tryz.prog W 0 (fun _=>true) true 23 (.slice A2 l2 c2) d2 p2) (h4:DataW.Trod enc Tryz.prog W 0 (fun _=>true) true 24 (.slice A4 l4 c4) d4 p4) :
  Calls Tryz.prog 3 #[.int .i64 n,.slice A1 l1 c1,.slice A2 l2 c2,.int .i64 v,.slice A4 l4 c4] W fun e W'=>e = .returned (.bool true)∧Below W.heap.size W W':=by
 obtain ⟨_,hng,hz⟩:=start hL
 obtain ⟨f1,h1⟩:=h1
 obtain ⟨f2,h2⟩:=h2
 obtain ⟨f4,h4⟩:=h4
 rw [cells_slice] at h1 h2 h4
 obtain ⟨ps,r1⟩:=reads_pairs Tryz.underlying22 Tryz.underlying73 cells73 rfl rfl Tryz.underlying3 Tryz.underlying3 cells3 cells3 hz h1
 obtain ⟨ts,r2⟩:=reads_trips Tryz.underlying23 Tryz.underlying32 cells32 rfl rfl rfl Tryz.underlying3 Tryz.underlying3 Tryz.underlying4 cells3 cells3 cells4 hz h2
 obtain ⟨to,r4,_,_⟩:=reads_ints Tryz.underlying24 Tryz.underlying3 cells3 hz h4
 rw [intVals_map] at r4
 obtain ⟨H',hc⟩:=glast_ok (codeOk W.heap.size) (graphOk W.heap.size) (K:=(absH W).nx.toNat) (H:=absH W) (n:=n) (v:=v) r1 r2 r4 (Nat.le_refl _) (firstS hL)
 exact law_calls (E:=lawEnv W.heap.size) theTys_ok (lawEnv_ok _) mixed_ok hng (by show (10:Nat) < _; decide) (lawEnv_sums _ _ rfl) (by
  simp only [List.map_cons,List.map_nil,absA_slice]
  exact hc)
set_option maxRecDepth 100000 in
theorem lifted (os:Os) (started:os.Started) (H:Type) (enc:TypeId × Value→H) :
  ReturnsInHanded {} Tryz.checked os 3 .any (fun w args=>(Rows.changeLastSpec.pre enc Tryz.prog Tryz.f3 Rows.changeLastRow.domain false w args∧laidMetH Tryz.prog laidL w)∧sizedMet enc Tryz.prog Tryz.f3 (OpenSpec.ofChange Rows.changeLastSpec) false w args)
   (Rows.changeLastSpec.post enc Tryz.prog Tryz.f3 false true false false):=by
 refine returnsInHanded_of_change_and (C:=Tryz.checked) (X:=fun w _=>laidMetH Tryz.prog laidL w) (fun _ _ _ hh h=>h.of_heap hh) own started (by kernel_rfl) Tryz.func3
  (ChangeSpec.witness_shaped (enc:=enc) (C:=Tryz.checked) (os:=os) (X:=fun w _=>laidMetH Tryz.prog laidL w) false (World.laidAll Tryz.prog os laidL) #[.int .i64 0,.slice none 0 0,.slice none 0 0,.int .i64 0,.slice none 0 0] 8 (World.laidAll_os _ _ _)
   (World.shaped_of_ZipB (by kernel_rfl) (by kernel_rfl)) (by kernel_rfl) (by kernel_rfl) (by kernel_rfl)
   (by rw [MakeChecks.laidMetH_plain _ _ _ (by kernel_rfl)]; exact laidMet_laidAll _ (by kernel_rfl) (by kernel_rfl))) ?_
 intro W base args ds gs before hval0 hW hc _ hL _
 have hval:∀ (j:Nat) t v,Tryz.f3.params[j]? = some t→args[j]? = some v→Value.okWide Tryz.prog W .any base t v:=hval0
 have hW':=hW
 obtain ⟨p,q,hA0,hV,rfl,_,_⟩:=hW
 have hA:DataW.TrodAll enc Tryz.prog W 0 (fun _=>true) true Tryz.f3.params.toList args.toList ds p:=hA0
 rw [Tryz.params3] at hA hval
 obtain ⟨v0,vs0,d0,ds0,p0,q0,hargs,rfl,rfl,h0,r0⟩:=trodAll_cons hA
 obtain ⟨v1,vs1,d1,ds1,p1,q1,rfl,rfl,rfl,h1,r1⟩:=trodAll_cons r0
 obtain ⟨v2,vs2,d2,ds2,p2,q2,rfl,rfl,rfl,h2,r2⟩:=trodAll_cons r1
 obtain ⟨v3,vs3,d3,ds3,p3,q3,rfl,rfl,rfl,h3,r3⟩:=trodAll_cons r2
 obtain ⟨v4,vs4,d4,ds4,p4,q4,rfl,rfl,rfl,h4,r4⟩:=trodAll_cons r3
 obtain ⟨rfl,rfl,rfl⟩:=trodAll_nil r4
 obtain rfl:args = #[v0,v1,v2,v3,v4]:=by cases args; simp_all
 obtain ⟨rfl,rfl⟩:=trodVars_none hV
 obtain ⟨a0,rfl,rfl,rfl,w0⟩:=open_int Tryz.underlying3 (hval 0 3 v0 rfl rfl) h0
 obtain ⟨A1,l1,c1,rfl⟩:=okWide_slice Tryz.underlying22 (hval 1 22 v1 rfl rfl)
 obtain ⟨A2,l2,c2,rfl⟩:=okWide_slice Tryz.underlying23 (hval 2 23 v2 rfl rfl)
 obtain ⟨a3,rfl,rfl,rfl,w3⟩:=open_int Tryz.underlying3 (hval 3 3 v3 rfl rfl) h3
 obtain ⟨A4,l4,c4,rfl⟩:=okWide_slice Tryz.underlying24 (hval 4 24 v4 rfl rfl)
 clear hA0 hval0
 simp only [List.append_nil,List.nil_append] at hW'
 have hlt:∀ x ∈ p1 ++ (p2 ++ p4),x.block < W.heap.size:=fun x hx=>by simpa using hW'.lt x (by simpa using hx)
 refine (walk a0 a3 W hL h1 h2 h4).mono fun e W' ⟨he,hb⟩=>?_
 subst he
 have hstay:∀ {t:TypeId} {v:Value} {d:DataW H} {p:List MemPlace} (sp:Nat→Bool),DataW.Trod enc Tryz.prog W 0 (fun _=>true) true t v d p→decide (t < Tryz.prog.types.size) = true→Tryz.prog.readableRec t = true→(∀ x ∈ p,x.block < W.heap.size)→(∀ x ∈ p,sp x.block = true)→DataW.Trod enc Tryz.prog W' 0 sp true t v d p:=fun sp h ht hr hl hsp =>
  WideElems.Trod_stays laidOut hr (of_decide_eq_true ht) h (fun x hx=>hb.same (hl x hx)) hsp
 exact ⟨_,rfl,post_of_below (pv:=[]) hW' (fun _ _ _=>trodAll_mk1 (shut_bool Tryz.underlying4 _)) (fun sp hsp=>(trodAll_cons_mk (shut_int Tryz.underlying3 w0) (trodAll_cons_mk (hstay sp h1 (by kernel_rfl) (by kernel_rfl) (fun x hx=>hlt x (by simp [hx])) (fun x hx=>hsp x (by simp [hx]))) (trodAll_cons_mk (hstay sp h2 (by kernel_rfl) (by kernel_rfl) (fun x hx=>hlt x (by simp [hx])) (fun x hx=>hsp x (by simp [hx]))) (trodAll_cons_mk (shut_int Tryz.underlying3 w3) (trodAll_cons_mk (hstay sp h4 (by kernel_rfl) (by kernel_rfl) (fun x hx=>hlt x (by simp [hx])) (fun x hx=>hsp x (by simp [hx]))) trodAll_mk0)))))) (fun _ _=>rfl) (by simp)
  hb (ok_one (by kernel_rfl) rfl (okWide_bool_mk Tryz.underlying4 _))⟩
end Go.Proofs.YtaogphcjlkeakaaGreatDoor
end
