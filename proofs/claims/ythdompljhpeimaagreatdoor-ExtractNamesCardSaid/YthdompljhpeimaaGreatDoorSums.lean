/- Part of the proof: AmSums. -/
import Derived.Test.YthdompljhpeimaaGreatDoorEnv
import Derived.Test.YthdompljhpeimaaGreatDoorLay
section
namespace Go.Am
open Go Go.Proofs Go.RowKit
set_option maxRecDepth 100000
theorem sum39 (B : Nat) : SumOk Tryz.prog theTys B 39 sHeld :=
  sumOk_held theTys_ok Tryz.func39 (by kernel_rfl) (hb := rfl) rfl (by kernel_rfl) (by kernel_rfl) (by kernel_rfl) (by kernel_rfl) (tm := 79) (kt := 84) (et := 4) rfl rfl rfl Tryz.underlying79 rfl rfl rfl rfl rfl rfl rfl rfl rfl (by kernel_rfl) (by kernel_rfl) (by kernel_rfl)
theorem sum76 (B : Nat) : SumOk Tryz.prog theTys B 76 sPend :=
  sumOk_pend theTys_ok Tryz.func76 (by kernel_rfl) (hb := rfl) rfl (by kernel_rfl) (by kernel_rfl) (tm := 78) (kt := 9) (et := 84) rfl rfl rfl (by kernel_rfl) (by kernel_rfl) rfl rfl rfl rfl rfl rfl rfl rfl rfl (by kernel_rfl) (by kernel_rfl) (by kernel_rfl) rfl rfl rfl (by kernel_rfl) (by kernel_rfl) (by kernel_rfl) rfl rfl
theorem sum129 (B : Nat) : SumOk Tryz.prog theTys B 129 sMapsClone := sumOk_mapsClone Tryz.func129 (by kernel_rfl) (by kernel_rfl) (by kernel_rfl) (by kernel_rfl)
theorem sum77 (B : Nat) : SumOk Tryz.prog theTys B 77 sClone :=
  sumOk_clone theTys_ok Tryz.func77 (by kernel_rfl) (fe := 129) (by decide) (sum129 B) (hb := rfl) rfl (by kernel_rfl) (by kernel_rfl) (by kernel_rfl) (tm := 78) (kt := 9) (et := 84) (xt := 20) Tryz.underlying78 (by kernel_rfl) (by kernel_rfl) rfl rfl rfl rfl rfl (by kernel_rfl)
theorem sum41 (B : Nat) : SumOk Tryz.prog theTys B 41 sSettle :=
  sumOk_settle theTys_ok Tryz.func41 (by kernel_rfl) (fc := 77) (by decide) (sum77 B) (hb := rfl) rfl (by kernel_rfl) (by kernel_rfl) (by kernel_rfl) (by kernel_rfl) (by kernel_rfl) (tm := 78) (kt := 9) (et := 84) rfl rfl rfl Tryz.underlying78 rfl rfl rfl rfl rfl rfl rfl rfl rfl (by kernel_rfl) (by kernel_rfl) (th := 79) (kh := 84) (eh := 4) rfl rfl rfl (by kernel_rfl) (by kernel_rfl)
theorem sum124 (B : Nat) : SumOk Tryz.prog theTys B 124 (sCrc (Pos.ofNat 1)) :=
  sumOk_crc theTys_ok Tryz.func124 (by kernel_rfl) (hb := rfl) rfl (by kernel_rfl) (by kernel_rfl) (by kernel_rfl) (by kernel_rfl) (by kernel_rfl) (by kernel_rfl) (by kernel_rfl) (by kernel_rfl) (by kernel_rfl) (by kernel_rfl)
theorem sum294 (B : Nat) : SumOk Tryz.prog theTys B 294 sCountString := sumOk_countString Tryz.func294 (by kernel_rfl) (by kernel_rfl) (by kernel_rfl) (by kernel_rfl)
theorem sum301 (B : Nat) : SumOk Tryz.prog theTys B 301 sIndexByte := sumOk_indexByte Tryz.func301 (by kernel_rfl) (by kernel_rfl) (by kernel_rfl) (by kernel_rfl)
theorem sum330 (B : Nat) : SumOk Tryz.prog theTys B 330 sIndexByte := sumOk_indexByte Tryz.func330 (by kernel_rfl) (by kernel_rfl) (by kernel_rfl) (by kernel_rfl)
open Go.Maps Go.Sort in
theorem sorts56 (m : Nat) : AnyZ.SortsIn Tryz.prog Tryz.sorted_ren Fence.wide m :=
  ⟨fun blk off cap ss W hH hblk hsz => callsIn_wide.2 (AnyM.slices_Sort_string Tryz.sort blk off cap ss W hH hblk hsz),
   fun p cap W => callsIn_wide.2 (AnyM.slices_Sort_string_none Tryz.sort p cap W)⟩
theorem sum56 (B : Nat) : SumOk Tryz.prog theTys B 56 (sSorted 105) := by
  refine sumOk_sorted (P := Tryz.prog) Tryz.func56 (by kernel_rfl) rfl (kt := 9) Tryz.underlying9 ?_
  intro Bm b nn D0 R w hBm hcell hown hmax hbytes
  have hseq : SeqGives Fence.wide 2 Tryz.prog 105 #[.pointer (some ⟨Bm, 0, none⟩)] encStr (fun ss => ss.Perm (strKeys D0)) (Maps.size D0) w :=
    AnyZ.keys_gives (ρ := Tryz.keys_ren) { Tryz.keys with } Fence.wide _ trivial rfl (by omega) Bm b nn D0 _ hBm hcell hown
  exact AnyZ.sorted_in Tryz.sorted Fence.wide 5 trivial trivial trivial trivial rfl (by omega) (sorts56 _) (enters_of Tryz.func104 (by kernel_rfl) rfl) 105 #[.pointer (some ⟨Bm, 0, none⟩)] trivial (enters_of Tryz.func105 (by kernel_rfl) rfl) _ _ hmax hbytes _ hseq
theorem sum254 (B : Nat) : SumOk Tryz.prog theTys B 254 sGrow := by
  refine sumOk_grow (P := Tryz.prog) Tryz.func254 (by kernel_rfl) rfl (te := 3) (z := .int .i64 0) rfl ?_ ?_
  · intro base l c n w h1 h2 h3 h4
    exact Any8.slices_Grow_room Tryz.grow base l c n w h1 h2 h3 h4
  · intro base l c n cs w h1 h2 h3 h4 h5 h6 h7
    have hb : ((Tryz.prog.types[3]?).getD default).bytes = 8 := by kernel_rfl
    have hs : ((Tryz.prog.types[3]?).getD default).size = 1 := by kernel_rfl
    exact Any8.slices_Grow_grow Tryz.grow ((Tryz.prog.types[3]?).getD default) (.int .i64 0) (by kernel_rfl) (by kernel_rfl) (by rw [hs]; decide) base l c n cs w h1 h2 (by rw [hb]; exact h3) h4 (by rw [hs]; exact h5) h6 h7
def firstOf : Option Code → Code
  | some (.seq a _) => a
  | _ => .skip
noncomputable def rec184 : Code := firstOf Tryz.f184.body
theorem dsum184 (B : Nat) : DsumOk Tryz.prog theTys B 184 (dRec theTys 24 rec184) :=
  dsumOk_recover theTys_ok mixed_ok Tryz.func184 (by kernel_rfl) (hb := rfl) rfl (by kernel_rfl) (by decide) (by decide) rfl rfl rfl rfl rfl rfl (by kernel_rfl)
noncomputable def theSums : List (Nat × (List AVal → AHeap → ARes)) := [(39, sHeld), (76, sPend), (77, sClone), (41, sSettle), (124, (sCrc (Pos.ofNat 1))), (294, sCountString), (301, sIndexByte), (330, sIndexByte), (56, (sSorted 105)), (254, sGrow)]
noncomputable def theDsums : List (Nat × (List AVal → AHeap → Option AHeap)) := [(184, (dRec theTys 24 rec184))]
theorem theSums_ok (B : Nat) : ∀ p ∈ theSums, p.1 < 2 ^ 31 ∧ SumOk Tryz.prog theTys B p.1 p.2 := by
  simp only [theSums, List.forall_mem_cons]
  exact ⟨⟨by decide, sum39 B⟩, ⟨by decide, sum76 B⟩, ⟨by decide, sum77 B⟩, ⟨by decide, sum41 B⟩, ⟨by decide, sum124 B⟩, ⟨by decide, sum294 B⟩, ⟨by decide, sum301 B⟩, ⟨by decide, sum330 B⟩, ⟨by decide, sum56 B⟩, ⟨by decide, sum254 B⟩, fun _ h => by cases h⟩
theorem theDsums_ok (B : Nat) : ∀ p ∈ theDsums, p.1 < 2 ^ 31 ∧ DsumOk Tryz.prog theTys B p.1 p.2 := by
  simp only [theDsums, List.forall_mem_cons]
  exact ⟨⟨by decide, dsum184 B⟩, fun _ h => by cases h⟩
end Go.Am
end
