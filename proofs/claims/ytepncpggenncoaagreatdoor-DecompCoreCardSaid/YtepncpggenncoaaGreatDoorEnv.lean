import Derived.Test.YtepncpggenncoaaGreatDoorDc2
import Derived.Test.YtepncpggenncoaaGreatDoorAm15
import Derived.Test.YtepncpggenncoaaGreatDoorAm17
import Derived.KernelRfl
import Derived.Test.YtepncpggenncoaaGreatDoorLay
set_option linter.unusedSimpArgs false
set_option linter.unusedVariables false
set_option maxRecDepth 100000
set_option maxHeartbeats 8000000
section
namespace Go.Am
open Go Go.Proofs
def runs:List (Nat×Nat):=[(2,202),(205,179),(385,10),(396,8),(405,2),(439,1)]
def y4n:List Nat:=runs.flatMap fun r=>List.range' r.1 r.2
noncomputable def fnAt(i:Nat) :Nat×Func:=(i,(Tryz.prog.funcs[i]?).getD Tryz.f2)
noncomputable def y02:List (Nat×Func):=y4n.map fnAt
def FnOk(p:Nat×Func) :Prop:=p.1<2^31/\Tryz.prog.funcs[p.1]? = some p.2/\(p.2.name == "runtime.NumGoroutine")=false
theorem q2e:(y4n.all fun i=>Nat.blt i 2147483648 && (Tryz.prog.funcs[i]?).isSome && !((fnAt i).2.name == "runtime.NumGoroutine"))=true:=by kernel_rfl
theorem q7r{i:Nat}(h:i∈y4n) :FnOk (fnAt i):=by
 have h1:=List.all_eq_true.1 q2e i h
 simp only[Bool.and_eq_true,Bool.not_eq_true']at h1
 obtain⟨⟨h1,h2⟩,h3⟩:=h1
 obtain⟨f,hf⟩:=Option.isSome_iff_exists.1 h2
 refine⟨Nat.lt_of_lt_of_eq (by rw[Nat.blt_eq]at h1;exact h1) (by decide),?_,h3⟩
 show Tryz.prog.funcs[i]? = some ((Tryz.prog.funcs[i]?).getD Tryz.f2)
 rw[hf]
 rfl
theorem y2s{l:List Nat}(h:∀ i∈l,i∈y4n) :∀ p∈l.map fnAt,FnOk p:=fun p hp=>by
 obtain⟨i,hi,rfl⟩:=List.mem_map.1 hp
 exact q7r (h i hi)
theorem q7h{l:List Nat}(h:(l.all fun i=>y4n.contains i)=true) :∀ i∈l,i∈y4n:=fun i hi=>by simpa using List.all_eq_true.1 h i hi
theorem y5r:∀ p∈y02,FnOk p:=y2s fun _ h=>h
theorem z2v:TOk2 z1m Tryz.prog:=TOk2.of_list (Nat.le_of_ble_eq_true (by kernel_rfl)) j5f (by kernel_rfl) (by kernel_rfl)
theorem z8k:Tryz.prog.follows .mixedOrders=true:=by kernel_rfl
end Go.Am
end
section
namespace Go.Am
open Go Go.Proofs Go.RowKit
theorem q80(B:Nat) :z2k Tryz.prog z1m B 54 j61 :=
 y3w z2v Tryz.func54 (by kernel_rfl) (hb:=rfl) rfl (by kernel_rfl) (by kernel_rfl) (by kernel_rfl) (by kernel_rfl) (tm:=107) (kt:=133) (et:=4) rfl rfl rfl Tryz.underlying107 rfl rfl rfl rfl rfl rfl rfl rfl rfl (by kernel_rfl) (by kernel_rfl) (by kernel_rfl)
theorem q3v(B:Nat) :z2k Tryz.prog z1m B 139 j60 :=
 y3v z2v Tryz.func139 (by kernel_rfl) (hb:=rfl) rfl (by kernel_rfl) (by kernel_rfl) (tm:=105) (kt:=9) (et:=133) rfl rfl rfl (by kernel_rfl) (by kernel_rfl) rfl rfl rfl rfl rfl rfl rfl rfl rfl (by kernel_rfl) (by kernel_rfl) (by kernel_rfl) rfl rfl rfl (by kernel_rfl) (by kernel_rfl) (by kernel_rfl) rfl rfl
theorem q84(B:Nat) :z2k Tryz.prog z1m B 204 z4f:=j09 Tryz.func204 (by kernel_rfl) (by kernel_rfl) (by kernel_rfl) (by kernel_rfl)
theorem q3u(B:Nat) :z2k Tryz.prog z1m B 142 z56 :=
 j8z z2v Tryz.func142 (by kernel_rfl) (fe:=204) (by decide) (q84 B) (hb:=rfl) rfl (by kernel_rfl) (by kernel_rfl) (by kernel_rfl) (tm:=105) (kt:=9) (et:=133) (xt:=20) Tryz.underlying105 (by kernel_rfl) (by kernel_rfl) rfl rfl rfl rfl rfl (by kernel_rfl)
theorem q8z(B:Nat) :z2k Tryz.prog z1m B 81 z5p :=
 j6u z2v Tryz.func81 (by kernel_rfl) (fc:=142) (by decide) (q3u B) (hb:=rfl) rfl (by kernel_rfl) (by kernel_rfl) (by kernel_rfl) (by kernel_rfl) (by kernel_rfl) (tm:=105) (kt:=9) (et:=133) rfl rfl rfl Tryz.underlying105 rfl rfl rfl rfl rfl rfl rfl rfl rfl (by kernel_rfl) (by kernel_rfl) (th:=107) (kh:=133) (eh:=4) rfl rfl rfl (by kernel_rfl) (by kernel_rfl)
theorem q3t(B:Nat) :z2k Tryz.prog z1m B 323 (sCrc (Pos.ofNat 4)) :=
 y5v z2v Tryz.func323 (by kernel_rfl) (hb:=rfl) rfl (by kernel_rfl) (by kernel_rfl) (by kernel_rfl) (by kernel_rfl) (by kernel_rfl) (by kernel_rfl) (by kernel_rfl) (by kernel_rfl) (by kernel_rfl) (by kernel_rfl)
theorem q82(B:Nat) :z2k Tryz.prog z1m B 384 z4w:=z85 Tryz.func384 (by kernel_rfl) (by kernel_rfl) (by kernel_rfl) (by kernel_rfl)
theorem q81(B:Nat) :z2k Tryz.prog z1m B 404 z68:=j1a Tryz.func404 (by kernel_rfl) (by kernel_rfl) (by kernel_rfl) (by kernel_rfl)
open Go.Maps Go.Sort in
theorem q0q(m:Nat) :AnyZ.SortsIn Tryz.prog Tryz.sorted_ren Fence.wide m :=
 ⟨fun blk off cap ss W hH hblk hsz=>callsIn_wide.2 (AnyM.slices_Sort_string Tryz.sort blk off cap ss W hH hblk hsz),
  fun p cap W=>callsIn_wide.2 (AnyM.slices_Sort_string_none Tryz.sort p cap W)⟩
theorem q3w(B:Nat) :z2k Tryz.prog z1m B 117 (z5o 172):=by
 refine j6t (P:=Tryz.prog) Tryz.func117 (by kernel_rfl) rfl (kt:=9) Tryz.underlying9 ?_
 intro Bm b nn D0 R w hBm hcell hown hmax hbytes
 have hseq:SeqGives Fence.wide 2 Tryz.prog 172 #[.pointer (some ⟨Bm,0,none⟩)] encStr (fun ss=>ss.Perm (strKeys D0)) (Maps.size D0) w :=
  AnyZ.keys_gives (ρ:=Tryz.keys_ren) { Tryz.keys with } Fence.wide _ trivial rfl (by omega) Bm b nn D0 _ hBm hcell hown
 exact AnyZ.sorted_in Tryz.sorted Fence.wide 5 trivial trivial trivial trivial rfl (by omega) (q0q _) (enters_of Tryz.func171 (by kernel_rfl) rfl) 172 #[.pointer (some ⟨Bm,0,none⟩)] trivial (enters_of Tryz.func172 (by kernel_rfl) rfl) _ _ hmax hbytes _ hseq
theorem q83(B:Nat) :z2k Tryz.prog z1m B 319 q0u:=by
 refine y3x (P:=Tryz.prog) Tryz.func319 (by kernel_rfl) rfl (te:=3) (z:=.int .i64 0) rfl ?_ ?_
 .intro base l c n w h1 h2 h3 h4
  exact Any8.slices_Grow_room Tryz.grow base l c n w h1 h2 h3 h4
 .intro base l c n cs w h1 h2 h3 h4 h5 h6 h7
  have hb:((Tryz.prog.types[3]?).getD default).bytes=8:=by kernel_rfl
  have hs:((Tryz.prog.types[3]?).getD default).size=1:=by kernel_rfl
  exact Any8.slices_Grow_grow Tryz.grow ((Tryz.prog.types[3]?).getD default) (.int .i64 0) (by kernel_rfl) (by kernel_rfl) (by rw[hs];decide) base l c n cs w h1 h2 (by rw[hb];exact h3) h4 (by rw[hs];exact h5) h6 h7
def q7t:Option Go.Code->Go.Code
 | some (.seq a _)=>a
 | _=>.skip
noncomputable def q35:Go.Code:=q7t Tryz.f376.body
theorem q70(B:Nat) :y3l Tryz.prog z1m B 376 (dRec z1m 24 q35) :=
 j2y z2v z8k Tryz.func376 (by kernel_rfl) (hb:=rfl) rfl (by kernel_rfl) (by decide) (by decide) rfl rfl rfl rfl rfl rfl (by kernel_rfl)
noncomputable def j8y:List (Nat×(List AVal->AHeap->ARes)):=[(54,j61),(139,j60),(142,z56),(81,z5p),(323,(sCrc (Pos.ofNat 4))),(384,z4w),(404,z68),(117,(z5o 172)),(319,q0u)]
noncomputable def j0n:List (Nat×(List AVal->AHeap->Option AHeap)):=[(376,(dRec z1m 24 q35))]
theorem y3t(B:Nat) :∀ p∈j8y,p.1<2^31/\z2k Tryz.prog z1m B p.1 p.2:=by
 simp only[j8y,List.forall_mem_cons]
 exact⟨⟨by decide,q80 B⟩,⟨by decide,q3v B⟩,⟨by decide,q3u B⟩,⟨by decide,q8z B⟩,⟨by decide,q3t B⟩,⟨by decide,q82 B⟩,⟨by decide,q81 B⟩,⟨by decide,q3w B⟩,⟨by decide,q83 B⟩,fun _ h=>by cases h⟩
theorem j07(B:Nat) :∀ p∈j0n,p.1<2^31/\y3l Tryz.prog z1m B p.1 p.2:=by
 simp only[j0n,List.forall_mem_cons]
 exact⟨⟨by decide,q70 B⟩,fun _ h=>by cases h⟩
end Go.Am
end
