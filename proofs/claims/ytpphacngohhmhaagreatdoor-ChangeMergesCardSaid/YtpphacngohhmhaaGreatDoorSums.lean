/- Part of the proof: AmSums. -/
import Derived.Test.YtpphacngohhmhaaGreatDoorEnv
import Derived.Test.YtpphacngohhmhaaGreatDoorNet3
import Derived.Test.YtpphacngohhmhaaGreatDoorLay
set_option linter.unusedSimpArgs false
set_option linter.unusedVariables false
section
namespace Go.Am
open Go Go.Proofs Go.RowKit
set_option maxRecDepth 100000
theorem sum77 (B : Nat) : SumOk Tryz.prog theTys B 77 sHeld :=
  sumOk_held theTys_ok Tryz.func77 (by kernel_rfl) (hb := rfl) rfl (by kernel_rfl) (by kernel_rfl) (by kernel_rfl) (by kernel_rfl) (tm := 120) (kt := 127) (et := 4) rfl rfl rfl Tryz.underlying120 rfl rfl rfl rfl rfl rfl rfl rfl rfl (by kernel_rfl) (by kernel_rfl) (by kernel_rfl)
theorem sum138 (B : Nat) : SumOk Tryz.prog theTys B 138 sPend :=
  sumOk_pend theTys_ok Tryz.func138 (by kernel_rfl) (hb := rfl) rfl (by kernel_rfl) (by kernel_rfl) (tm := 118) (kt := 9) (et := 127) rfl rfl rfl (by kernel_rfl) (by kernel_rfl) rfl rfl rfl rfl rfl rfl rfl rfl rfl (by kernel_rfl) (by kernel_rfl) (by kernel_rfl) rfl rfl rfl (by kernel_rfl) (by kernel_rfl) (by kernel_rfl) rfl rfl
theorem sum199 (B : Nat) : SumOk Tryz.prog theTys B 199 sMapsClone := sumOk_mapsClone Tryz.func199 (by kernel_rfl) (by kernel_rfl) (by kernel_rfl) (by kernel_rfl)
theorem sum141 (B : Nat) : SumOk Tryz.prog theTys B 141 sClone :=
  sumOk_clone theTys_ok Tryz.func141 (by kernel_rfl) (fe := 199) (by decide) (sum199 B) (hb := rfl) rfl (by kernel_rfl) (by kernel_rfl) (by kernel_rfl) (tm := 118) (kt := 9) (et := 127) (xt := 20) Tryz.underlying118 (by kernel_rfl) (by kernel_rfl) rfl rfl rfl rfl rfl (by kernel_rfl)
theorem sum82 (B : Nat) : SumOk Tryz.prog theTys B 82 sSettle :=
  sumOk_settle theTys_ok Tryz.func82 (by kernel_rfl) (fc := 141) (by decide) (sum141 B) (hb := rfl) rfl (by kernel_rfl) (by kernel_rfl) (by kernel_rfl) (by kernel_rfl) (by kernel_rfl) (tm := 118) (kt := 9) (et := 127) rfl rfl rfl Tryz.underlying118 rfl rfl rfl rfl rfl rfl rfl rfl rfl (by kernel_rfl) (by kernel_rfl) (th := 120) (kh := 127) (eh := 4) rfl rfl rfl (by kernel_rfl) (by kernel_rfl)
theorem sum324 (B : Nat) : SumOk Tryz.prog theTys B 324 (sCrc (Pos.ofNat 5)) :=
  sumOk_crc theTys_ok Tryz.func324 (by kernel_rfl) (hb := rfl) rfl (by kernel_rfl) (by kernel_rfl) (by kernel_rfl) (by kernel_rfl) (by kernel_rfl) (by kernel_rfl) (by kernel_rfl) (by kernel_rfl) (by kernel_rfl) (by kernel_rfl)
theorem sum333 (B : Nat) : SumOk Tryz.prog theTys B 333 sCountString := sumOk_countString Tryz.func333 (by kernel_rfl) (by kernel_rfl) (by kernel_rfl) (by kernel_rfl)
theorem sum314 (B : Nat) : SumOk Tryz.prog theTys B 314 sCount := sumOk_count Tryz.func314 (by kernel_rfl) (by kernel_rfl) (by kernel_rfl) (by kernel_rfl)
theorem sum339 (B : Nat) : SumOk Tryz.prog theTys B 339 sIndexByte := sumOk_indexByte Tryz.func339 (by kernel_rfl) (by kernel_rfl) (by kernel_rfl) (by kernel_rfl)
theorem sum351 (B : Nat) : SumOk Tryz.prog theTys B 351 sIndexByte := sumOk_indexByte Tryz.func351 (by kernel_rfl) (by kernel_rfl) (by kernel_rfl) (by kernel_rfl)
open Go.Maps Go.Sort in
theorem sorts61 (m : Nat) : AnyZ.SortsIn Tryz.prog Tryz.sorted_ren Fence.wide m :=
  ⟨fun blk off cap ss W hH hblk hsz => callsIn_wide.2 (AnyM.slices_Sort_string Tryz.sort blk off cap ss W hH hblk hsz),
   fun p cap W => callsIn_wide.2 (AnyM.slices_Sort_string_none Tryz.sort p cap W)⟩
theorem sum61 (B : Nat) : SumOk Tryz.prog theTys B 61 (sSorted 125) := by
  refine sumOk_sorted (P := Tryz.prog) Tryz.func61 (by kernel_rfl) rfl (kt := 9) Tryz.underlying9 ?_
  intro Bm b nn D0 R w hBm hcell hown hmax hbytes
  have hseq : SeqGives Fence.wide 2 Tryz.prog 125 #[.pointer (some ⟨Bm, 0, none⟩)] encStr (fun ss => ss.Perm (strKeys D0)) (Maps.size D0) w :=
    AnyZ.keys_gives (ρ := Tryz.keys_ren) { Tryz.keys with } Fence.wide _ trivial rfl (by omega) Bm b nn D0 _ hBm hcell hown
  exact AnyZ.sorted_in Tryz.sorted Fence.wide 5 trivial trivial trivial trivial rfl (by omega) (sorts61 _) (enters_of Tryz.func124 (by kernel_rfl) rfl) 125 #[.pointer (some ⟨Bm, 0, none⟩)] trivial (enters_of Tryz.func125 (by kernel_rfl) rfl) _ _ hmax hbytes _ hseq
def firstOf : Option Code → Code
  | some (.seq a _) => a
  | _ => .skip
noncomputable def rec341 : Code := firstOf Tryz.f341.body
theorem dsum341 (B : Nat) : DsumOk Tryz.prog theTys B 341 (dRec theTys 24 rec341) :=
  dsumOk_recover theTys_ok mixed_ok Tryz.func341 (by kernel_rfl) (hb := rfl) rfl (by kernel_rfl) (by decide) (by decide) rfl rfl rfl rfl rfl rfl (by kernel_rfl)
noncomputable def theSums : List (Nat × (List AVal → AHeap → ARes)) := [(77, sHeld), (138, sPend), (141, sClone), (82, sSettle), (324, (sCrc (Pos.ofNat 5))), (333, sCountString), (314, sCount), (339, sIndexByte), (351, sIndexByte), (61, (sSorted 125)), (12, sNet), (23, sMerge), (27, (sSortT 28)), (63, sSortZ), (65, sCompactZ)]
noncomputable def theDsums : List (Nat × (List AVal → AHeap → Option AHeap)) := [(341, (dRec theTys 24 rec341))]
theorem theSums_ok (B : Nat) : ∀ p ∈ theSums, p.1 < 2 ^ 31 ∧ SumOk Tryz.prog theTys B p.1 p.2 := by
  simp only [theSums, List.forall_mem_cons]
  exact ⟨⟨by decide, sum77 B⟩, ⟨by decide, sum138 B⟩, ⟨by decide, sum141 B⟩, ⟨by decide, sum82 B⟩, ⟨by decide, sum324 B⟩, ⟨by decide, sum333 B⟩, ⟨by decide, sum314 B⟩, ⟨by decide, sum339 B⟩, ⟨by decide, sum351 B⟩, ⟨by decide, sum61 B⟩, ⟨by decide, sum12 B⟩, ⟨by decide, sum23 B⟩, ⟨by decide, sum27 B⟩, ⟨by decide, sum63 B⟩, ⟨by decide, sum65 B⟩, fun _ h => by cases h⟩
theorem theDsums_ok (B : Nat) : ∀ p ∈ theDsums, p.1 < 2 ^ 31 ∧ DsumOk Tryz.prog theTys B p.1 p.2 := by
  simp only [theDsums, List.forall_mem_cons]
  exact ⟨⟨by decide, dsum341 B⟩, fun _ h => by cases h⟩
end Go.Am
end
