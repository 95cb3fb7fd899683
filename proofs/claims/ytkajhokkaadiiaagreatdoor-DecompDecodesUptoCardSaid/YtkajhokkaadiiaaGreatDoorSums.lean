/- Part of the proof: AmSums. -/
import Derived.Test.YtkajhokkaadiiaaGreatDoorEnv
import Derived.Test.YtkajhokkaadiiaaGreatDoorLay
section
namespace Go.Am
open Go Go.Proofs Go.RowKit
set_option maxRecDepth 100000
theorem sum73 (B : Nat) : SumOk Tryz.prog theTys B 73 sHeld :=
  sumOk_held theTys_ok Tryz.func73 (by kernel_rfl) (hb := rfl) rfl (by kernel_rfl) (by kernel_rfl) (by kernel_rfl) (by kernel_rfl) (tm := 103) (kt := 126) (et := 4) rfl rfl rfl Tryz.underlying103 rfl rfl rfl rfl rfl rfl rfl rfl rfl (by kernel_rfl) (by kernel_rfl) (by kernel_rfl)
theorem sum105 (B : Nat) : SumOk Tryz.prog theTys B 105 sPend :=
  sumOk_pend theTys_ok Tryz.func105 (by kernel_rfl) (hb := rfl) rfl (by kernel_rfl) (by kernel_rfl) (tm := 101) (kt := 9) (et := 126) rfl rfl rfl (by kernel_rfl) (by kernel_rfl) rfl rfl rfl rfl rfl rfl rfl rfl rfl (by kernel_rfl) (by kernel_rfl) (by kernel_rfl) rfl rfl rfl (by kernel_rfl) (by kernel_rfl) (by kernel_rfl) rfl rfl
theorem sum153 (B : Nat) : SumOk Tryz.prog theTys B 153 sMapsClone := sumOk_mapsClone Tryz.func153 (by kernel_rfl) (by kernel_rfl) (by kernel_rfl) (by kernel_rfl)
theorem sum106 (B : Nat) : SumOk Tryz.prog theTys B 106 sClone :=
  sumOk_clone theTys_ok Tryz.func106 (by kernel_rfl) (fe := 153) (by decide) (sum153 B) (hb := rfl) rfl (by kernel_rfl) (by kernel_rfl) (by kernel_rfl) (tm := 101) (kt := 9) (et := 126) (xt := 20) Tryz.underlying101 (by kernel_rfl) (by kernel_rfl) rfl rfl rfl rfl rfl (by kernel_rfl)
theorem sum75 (B : Nat) : SumOk Tryz.prog theTys B 75 sSettle :=
  sumOk_settle theTys_ok Tryz.func75 (by kernel_rfl) (fc := 106) (by decide) (sum106 B) (hb := rfl) rfl (by kernel_rfl) (by kernel_rfl) (by kernel_rfl) (by kernel_rfl) (by kernel_rfl) (tm := 101) (kt := 9) (et := 126) rfl rfl rfl Tryz.underlying101 rfl rfl rfl rfl rfl rfl rfl rfl rfl (by kernel_rfl) (by kernel_rfl) (th := 103) (kh := 126) (eh := 4) rfl rfl rfl (by kernel_rfl) (by kernel_rfl)
theorem sum241 (B : Nat) : SumOk Tryz.prog theTys B 241 (sCrc (Pos.ofNat 4)) :=
  sumOk_crc theTys_ok Tryz.func241 (by kernel_rfl) (hb := rfl) rfl (by kernel_rfl) (by kernel_rfl) (by kernel_rfl) (by kernel_rfl) (by kernel_rfl) (by kernel_rfl) (by kernel_rfl) (by kernel_rfl) (by kernel_rfl) (by kernel_rfl)
theorem sum291 (B : Nat) : SumOk Tryz.prog theTys B 291 sCountString := sumOk_countString Tryz.func291 (by kernel_rfl) (by kernel_rfl) (by kernel_rfl) (by kernel_rfl)
theorem sum309 (B : Nat) : SumOk Tryz.prog theTys B 309 sIndexByte := sumOk_indexByte Tryz.func309 (by kernel_rfl) (by kernel_rfl) (by kernel_rfl) (by kernel_rfl)
open Go.Maps Go.Sort in
theorem sorts169 (m : Nat) : AnyZ.SortsIn Tryz.prog Tryz.sorted_ren Fence.wide m :=
  ⟨fun blk off cap ss W hH hblk hsz => callsIn_wide.2 (AnyM.slices_Sort_string Tryz.sort blk off cap ss W hH hblk hsz),
   fun p cap W => callsIn_wide.2 (AnyM.slices_Sort_string_none Tryz.sort p cap W)⟩
theorem sum169 (B : Nat) : SumOk Tryz.prog theTys B 169 (sSorted 223) := by
  refine sumOk_sorted (P := Tryz.prog) Tryz.func169 (by kernel_rfl) rfl (kt := 9) Tryz.underlying9 ?_
  intro Bm b nn D0 R w hBm hcell hown hmax hbytes
  have hseq : SeqGives Fence.wide 2 Tryz.prog 223 #[.pointer (some ⟨Bm, 0, none⟩)] encStr (fun ss => ss.Perm (strKeys D0)) (Maps.size D0) w :=
    AnyZ.keys_gives (ρ := Tryz.keys_ren) { Tryz.keys with } Fence.wide _ trivial rfl (by omega) Bm b nn D0 _ hBm hcell hown
  exact AnyZ.sorted_in Tryz.sorted Fence.wide 5 trivial trivial trivial trivial rfl (by omega) (sorts169 _) (enters_of Tryz.func222 (by kernel_rfl) rfl) 223 #[.pointer (some ⟨Bm, 0, none⟩)] trivial (enters_of Tryz.func223 (by kernel_rfl) rfl) _ _ hmax hbytes _ hseq
theorem sum237 (B : Nat) : SumOk Tryz.prog theTys B 237 sGrow := by
  refine sumOk_grow (P := Tryz.prog) Tryz.func237 (by kernel_rfl) rfl (te := 3) (z := .int .i64 0) rfl ?_ ?_
  · intro base l c n w h1 h2 h3 h4
    exact Any8.slices_Grow_room Tryz.grow base l c n w h1 h2 h3 h4
  · intro base l c n cs w h1 h2 h3 h4 h5 h6 h7
    have hb : ((Tryz.prog.types[3]?).getD default).bytes = 8 := by kernel_rfl
    have hs : ((Tryz.prog.types[3]?).getD default).size = 1 := by kernel_rfl
    exact Any8.slices_Grow_grow Tryz.grow ((Tryz.prog.types[3]?).getD default) (.int .i64 0) (by kernel_rfl) (by kernel_rfl) (by rw [hs]; decide) base l c n cs w h1 h2 (by rw [hb]; exact h3) h4 (by rw [hs]; exact h5) h6 h7
def firstOf : Option Code → Code
  | some (.seq a _) => a
  | _ => .skip
noncomputable def rec279 : Code := firstOf Tryz.f279.body
theorem dsum279 (B : Nat) : DsumOk Tryz.prog theTys B 279 (dRec theTys 24 rec279) :=
  dsumOk_recover theTys_ok mixed_ok Tryz.func279 (by kernel_rfl) (hb := rfl) rfl (by kernel_rfl) (by decide) (by decide) rfl rfl rfl rfl rfl rfl (by kernel_rfl)
noncomputable def theSums : List (Nat × (List AVal → AHeap → ARes)) := [(73, sHeld), (105, sPend), (106, sClone), (75, sSettle), (241, (sCrc (Pos.ofNat 4))), (291, sCountString), (309, sIndexByte), (169, (sSorted 223)), (237, sGrow)]
noncomputable def theDsums : List (Nat × (List AVal → AHeap → Option AHeap)) := [(279, (dRec theTys 24 rec279))]
theorem theSums_ok (B : Nat) : ∀ p ∈ theSums, p.1 < 2 ^ 31 ∧ SumOk Tryz.prog theTys B p.1 p.2 := by
  simp only [theSums, List.forall_mem_cons]
  exact ⟨⟨by decide, sum73 B⟩, ⟨by decide, sum105 B⟩, ⟨by decide, sum106 B⟩, ⟨by decide, sum75 B⟩, ⟨by decide, sum241 B⟩, ⟨by decide, sum291 B⟩, ⟨by decide, sum309 B⟩, ⟨by decide, sum169 B⟩, ⟨by decide, sum237 B⟩, fun _ h => by cases h⟩
theorem theDsums_ok (B : Nat) : ∀ p ∈ theDsums, p.1 < 2 ^ 31 ∧ DsumOk Tryz.prog theTys B p.1 p.2 := by
  simp only [theDsums, List.forall_mem_cons]
  exact ⟨⟨by decide, dsum279 B⟩, fun _ h => by cases h⟩
end Go.Am
end
