/- Part of the proof: AmSums. -/
import Derived.Test.YtaogphcjlkeakaaGreatDoorEnv
import Derived.Test.YtaogphcjlkeakaaGreatDoorNet3
import Derived.Test.YtaogphcjlkeakaaGreatDoorLay
set_option linter.unusedSimpArgs false
set_option linter.unusedVariables false
section
namespace Go.Am
open Go Go.Proofs Go.RowKit
set_option maxRecDepth 100000
theorem sum89 (B:Nat) :SumOk Tryz.prog theTys B 89 sHeld :=
 sumOk_held theTys_ok Tryz.func89 (by kernel_rfl) (hb:=rfl) rfl (by kernel_rfl) (by kernel_rfl) (by kernel_rfl) (by kernel_rfl) (tm:=141) (kt:=148) (et:=4) rfl rfl rfl Tryz.underlying141 rfl rfl rfl rfl rfl rfl rfl rfl rfl (by kernel_rfl) (by kernel_rfl) (by kernel_rfl)
theorem sum151 (B:Nat) :SumOk Tryz.prog theTys B 151 sPend :=
 sumOk_pend theTys_ok Tryz.func151 (by kernel_rfl) (hb:=rfl) rfl (by kernel_rfl) (by kernel_rfl) (tm:=139) (kt:=9) (et:=148) rfl rfl rfl (by kernel_rfl) (by kernel_rfl) rfl rfl rfl rfl rfl rfl rfl rfl rfl (by kernel_rfl) (by kernel_rfl) (by kernel_rfl) rfl rfl rfl (by kernel_rfl) (by kernel_rfl) (by kernel_rfl) rfl rfl
theorem sum212 (B:Nat) :SumOk Tryz.prog theTys B 212 sMapsClone:=sumOk_mapsClone Tryz.func212 (by kernel_rfl) (by kernel_rfl) (by kernel_rfl) (by kernel_rfl)
theorem sum154 (B:Nat) :SumOk Tryz.prog theTys B 154 sClone :=
 sumOk_clone theTys_ok Tryz.func154 (by kernel_rfl) (fe:=212) (by decide) (sum212 B) (hb:=rfl) rfl (by kernel_rfl) (by kernel_rfl) (by kernel_rfl) (tm:=139) (kt:=9) (et:=148) (xt:=20) Tryz.underlying139 (by kernel_rfl) (by kernel_rfl) rfl rfl rfl rfl rfl (by kernel_rfl)
theorem sum94 (B:Nat) :SumOk Tryz.prog theTys B 94 sSettle :=
 sumOk_settle theTys_ok Tryz.func94 (by kernel_rfl) (fc:=154) (by decide) (sum154 B) (hb:=rfl) rfl (by kernel_rfl) (by kernel_rfl) (by kernel_rfl) (by kernel_rfl) (by kernel_rfl) (tm:=139) (kt:=9) (et:=148) rfl rfl rfl Tryz.underlying139 rfl rfl rfl rfl rfl rfl rfl rfl rfl (by kernel_rfl) (by kernel_rfl) (th:=141) (kh:=148) (eh:=4) rfl rfl rfl (by kernel_rfl) (by kernel_rfl)
theorem sum338 (B:Nat) :SumOk Tryz.prog theTys B 338 (sCrc (Pos.ofNat 5)) :=
 sumOk_crc theTys_ok Tryz.func338 (by kernel_rfl) (hb:=rfl) rfl (by kernel_rfl) (by kernel_rfl) (by kernel_rfl) (by kernel_rfl) (by kernel_rfl) (by kernel_rfl) (by kernel_rfl) (by kernel_rfl) (by kernel_rfl) (by kernel_rfl)
theorem sum347 (B:Nat) :SumOk Tryz.prog theTys B 347 sCountString:=sumOk_countString Tryz.func347 (by kernel_rfl) (by kernel_rfl) (by kernel_rfl) (by kernel_rfl)
theorem sum328 (B:Nat) :SumOk Tryz.prog theTys B 328 sCount:=sumOk_count Tryz.func328 (by kernel_rfl) (by kernel_rfl) (by kernel_rfl) (by kernel_rfl)
theorem sum353 (B:Nat) :SumOk Tryz.prog theTys B 353 sIndexByte:=sumOk_indexByte Tryz.func353 (by kernel_rfl) (by kernel_rfl) (by kernel_rfl) (by kernel_rfl)
theorem sum365 (B:Nat) :SumOk Tryz.prog theTys B 365 sIndexByte:=sumOk_indexByte Tryz.func365 (by kernel_rfl) (by kernel_rfl) (by kernel_rfl) (by kernel_rfl)
open Go.Maps Go.Sort in
theorem sorts72 (m:Nat) :AnyZ.SortsIn Tryz.prog Tryz.sorted_ren Fence.wide m :=
 ⟨fun blk off cap ss W hH hblk hsz=>callsIn_wide.2 (AnyM.slices_Sort_string Tryz.sort blk off cap ss W hH hblk hsz),
  fun p cap W=>callsIn_wide.2 (AnyM.slices_Sort_string_none Tryz.sort p cap W)⟩
theorem sum72 (B:Nat) :SumOk Tryz.prog theTys B 72 (sSorted 137):=by
 refine sumOk_sorted (P:=Tryz.prog) Tryz.func72 (by kernel_rfl) rfl (kt:=9) Tryz.underlying9 ?_
 intro Bm b nn D0 R w hBm hcell hown hmax hbytes
 have hseq:SeqGives Fence.wide 2 Tryz.prog 137 #[.pointer (some ⟨Bm,0,none⟩)] encStr (fun ss=>ss.Perm (strKeys D0)) (Maps.size D0) w :=
  AnyZ.keys_gives (ρ:=Tryz.keys_ren) { Tryz.keys with } Fence.wide _ trivial rfl (by omega) Bm b nn D0 _ hBm hcell hown
 exact AnyZ.sorted_in Tryz.sorted Fence.wide 5 trivial trivial trivial trivial rfl (by omega) (sorts72 _) (enters_of Tryz.func136 (by kernel_rfl) rfl) 137 #[.pointer (some ⟨Bm,0,none⟩)] trivial (enters_of Tryz.func137 (by kernel_rfl) rfl) _ _ hmax hbytes _ hseq
def firstOf:Option Code→Code
 | some (.seq a _)=>a
 | _=>.skip
noncomputable def rec355:Code:=firstOf Tryz.f355.body
theorem dsum355 (B:Nat) :DsumOk Tryz.prog theTys B 355 (dRec theTys 24 rec355) :=
 dsumOk_recover theTys_ok mixed_ok Tryz.func355 (by kernel_rfl) (hb:=rfl) rfl (by kernel_rfl) (by decide) (by decide) rfl rfl rfl rfl rfl rfl (by kernel_rfl)
noncomputable def theSums:List (Nat × (List AVal→AHeap→ARes)):=[(89,sHeld),(151,sPend),(154,sClone),(94,sSettle),(338,(sCrc (Pos.ofNat 5))),(347,sCountString),(328,sCount),(353,sIndexByte),(365,sIndexByte),(72,(sSorted 137)),(7,sNet),(32,sMerge),(28,(sSortT 29)),(78,sSortZ),(80,sCompactZ)]
noncomputable def theDsums:List (Nat × (List AVal→AHeap→Option AHeap)):=[(355,(dRec theTys 24 rec355))]
theorem theSums_ok (B:Nat) :∀ p ∈ theSums,p.1 < 2 ^ 31∧SumOk Tryz.prog theTys B p.1 p.2:=by
 simp only [theSums,List.forall_mem_cons]
 exact ⟨⟨by decide,sum89 B⟩,⟨by decide,sum151 B⟩,⟨by decide,sum154 B⟩,⟨by decide,sum94 B⟩,⟨by decide,sum338 B⟩,⟨by decide,sum347 B⟩,⟨by decide,sum328 B⟩,⟨by decide,sum353 B⟩,⟨by decide,sum365 B⟩,⟨by decide,sum72 B⟩,⟨by decide,sum7 B⟩,⟨by decide,sum32 B⟩,⟨by decide,sum28 B⟩,⟨by decide,sum78 B⟩,⟨by decide,sum80 B⟩,fun _ h=>by cases h⟩
theorem theDsums_ok (B:Nat) :∀ p ∈ theDsums,p.1 < 2 ^ 31∧DsumOk Tryz.prog theTys B p.1 p.2:=by
 simp only [theDsums,List.forall_mem_cons]
 exact ⟨⟨by decide,dsum355 B⟩,fun _ h=>by cases h⟩
end Go.Am
end
