/- Part of the proof: AmLaw2. -/
import Derived.Test.YthdompljhpeimaaGreatDoorFirst
import Derived.Test.YthdompljhpeimaaGreatDoorAm24
import Derived.Test.YthdompljhpeimaaGreatDoorTie
import Derived.Test.YthdompljhpeimaaGreatDoorCards
import Derived.WalkKit
import Derived.ProofKit
import Derived.OpenShut
import Derived.LaidMore
import Derived.Lay
import Derived.SevenTiedAt
import Derived.Stop.Joined
import Derived.Lib.ItoaLen
section
namespace Go.Proofs.YthdompljhpeimaaGreatDoor
open Go.ChangeShapes Go.WideShapes Go.ChangeAt Go.RowKit Go.Am

theorem own : ownKnob Tryz.prog.godebug = none := by kernel_rfl
abbrev laidL : List (String × DataW Unit) := Rows.extractNamesRow.laid
def crcZ : List Int := [0, 79764919, 159529838, 222504665, 319059676, 398814059, 445009330, 507990021, 638119352, 583659535, 797628118, 726387553, 890018660, 835552979, 1015980042, 944750013]
def bruZ : List Int := [0, 1, 56, 2, 57, 49, 28, 3, 61, 58, 42, 50, 38, 29, 17, 4, 62, 47, 59, 36, 45, 43, 51, 22, 53, 39, 33, 30, 24, 18, 12, 5, 63, 55, 48, 27, 60, 41, 37, 16, 46, 35, 44, 21, 52, 32, 23, 11, 54, 26, 40, 15, 34, 20, 31, 10, 25, 14, 19, 9, 13, 8, 7, 6]
def shapeZ : List (List UInt8 × Int) := [([109, 97, 110, 105, 102, 101, 115, 116], 0), ([99, 111, 114, 101], 1), ([111, 114, 100, 101, 114], 1), ([110, 101, 115, 116], 1), ([99, 107, 112, 116], 1), ([115], 2), ([120], 2), ([120], 3)]

theorem start {W : World} (hL : laidMetH Tryz.prog laidL W) : HRel theTys W.heap.size (globEmb W 10) hp0 W ∧ Lib.TabIs Tryz.prog W "internal/strconv.uint64pow10" .u64 Lib.pow10Tab := by
  rw [MakeChecks.laidMetH_plain _ _ _ (by kernel_rfl)] at hL
  have h1 := (lies_tab (name := "pith/crc.table") (k := .u32) (zs := crcZ) hL (List.mem_of_getElem? (i := 3) (by kernel_rfl)) (g := 1) (t := 304) (e := 70) (n := 16) (by kernel_rfl) (by kernel_rfl) (by kernel_rfl) (by kernel_rfl) (by kernel_rfl) (by kernel_rfl)).1
  have h5 := (lies_tab (name := "math/bits.deBruijn64tab") (k := .u8) (zs := bruZ) hL (List.mem_of_getElem? (i := 1) (by kernel_rfl)) (g := 5) (t := 375) (e := 5) (n := 64) (by kernel_rfl) (by kernel_rfl) (by kernel_rfl) (by kernel_rfl) (by kernel_rfl) (by kernel_rfl)).1
  have h2 := (lies_tab (name := "internal/strconv.uint64pow10") (k := .u64) (zs := Lib.pow10Tab) hL (List.mem_of_getElem? (i := 2) (by kernel_rfl)) (g := 2) (t := 306) (e := 209) (n := 20) (by kernel_rfl) (by kernel_rfl) (by kernel_rfl) (by kernel_rfl) (by kernel_rfl) (by kernel_rfl)).2
  have h0 := lies_pairs (name := "pith/manifest.shapes") (ss := shapeZ) hL (List.mem_of_getElem? (i := 7) (by kernel_rfl)) (g := 0) (t := 258) (e := 257) (n := 8) (by kernel_rfl) (by kernel_rfl) Tryz.underlying258 Tryz.underlying257 (by kernel_rfl) (by kernel_rfl) rfl rfl (by kernel_rfl) (by kernel_rfl) (by kernel_rfl) (by kernel_rfl)
  have h9 : 10 ≤ W.heap.size := by
    obtain ⟨ps, hv, _⟩ := hL
    obtain ⟨g, t, cs, fuel, p, hg, _, hv, _⟩ := laid_row (n := "unicode/utf8.acceptRanges") (d := Rows.laid_unicode_utf8_acceptRanges) hv (List.mem_of_getElem? (i := 4) (by kernel_rfl))
    obtain rfl := Option.some.inj ((show Tryz.prog.globalNamed "unicode/utf8.acceptRanges" = some 9 by kernel_rfl).symm.trans hg)
    obtain ⟨e, fz, hb⟩ := block_of_var hg hv
    have := (Array.getElem?_eq_some_iff.1 hb).1
    omega
  refine ⟨?_, h2⟩
  have hS := HRel.start (T := theTys) (objs := [(1, crcZ.map (AVal.int .u32)), (5, bruZ.map (AVal.int .u8)), (0, pairCells shapeZ)]) h9 (by show (10 : Nat) < _; decide) (by
    intro p hp
    simp only [List.mem_cons, List.not_mem_nil, or_false] at hp
    rcases hp with rfl | rfl | rfl
    · exact ⟨by show (1 : Nat) < 10; decide, h1⟩
    · exact ⟨by show (5 : Nat) < 10; decide, h5⟩
    · exact ⟨by show (0 : Nat) < 10; decide, h0⟩)
  have he : hp0 = ⟨putAll ([(1, crcZ.map (AVal.int .u32)), (5, bruZ.map (AVal.int .u8)), (0, pairCells shapeZ)].map fun p => (p.1, AObj.cells p.2 false true)) .l, Pos.ofNat theTys.ng⟩ := eqvH_eq _ _ (by kernel_rfl)
  rw [he]
  exact hS

theorem cFirst {W : World} (hL : laidMetH Tryz.prog laidL W) : Calls Tryz.prog 4 #[] W fun e W' => e = .returned (.bool true) ∧ Below W.heap.size W W' :=
  (first_ok (start hL).1).calls fun u φ' w' hv hS => by
    have hv : u = .bool true := hv
    subst hv
    exact ⟨rfl, hS.below⟩

theorem tab_later {W W' : World} (h : Lib.TabIs Tryz.prog W "internal/strconv.uint64pow10" .u64 Lib.pow10Tab) (hb : Below W.heap.size W W') : Lib.TabIs Tryz.prog W' "internal/strconv.uint64pow10" .u64 Lib.pow10Tab := by
  unfold Lib.TabIs at h ⊢
  have hg : Tryz.prog.globalNamed "internal/strconv.uint64pow10" = some 2 := by kernel_rfl
  obtain ⟨e, fz, hc⟩ := block_of_var hg h
  have hlt := (Array.getElem?_eq_some_iff.1 hc).1
  simp only [World.var?, hg, Option.bind_some, hb.block 2 hlt]
  simpa only [World.var?, hg, Option.bind_some] using h

theorem itoa_at (n : Int) (h0 : -9223372036854775808 ≤ n) (h1 : n ≤ 9223372036854775807) (w : World) (htab : Lib.TabIs Tryz.prog w "internal/strconv.uint64pow10" .u64 Lib.pow10Tab) :
    Calls Tryz.prog 12 #[.int .i64 n] w fun e w' => e = .returned (.string ⟨(Lib.itoa n).toArray⟩) ∧ Below w.heap.size w w' :=
  (Any.strconv_Itoa Tryz.itoa n h0 h1 w htab).mono fun e w' ⟨he, k, os, hw⟩ => by
    subst hw
    refine ⟨he, rfl, rfl, rfl, ?_, fun j hj => ?_⟩
    · simp [Sort.grow, World.drewN]
    · show (w.heap ++ os)[j]? = w.heap[j]?
      rw [Array.getElem?_append_left hj]

theorem names_at {f : FuncId} (hf : f = 5 ∨ f = 6) {a b : Int} (wa : (Lit.int .i64 a).wf = true) (wb : (Lit.int .i64 b).wf = true) {φ : Emb} {w : World} (h10 : 10 ≤ w.heap.size) (htab : Lib.TabIs Tryz.prog w "internal/strconv.uint64pow10" .u64 Lib.pow10Tab) :
    CallsIn Fence.wide 0 Tryz.prog f #[.int .i64 a, .int .i64 b] w fun e w' => ∃ u, e = .returned u ∧ VRel φ (.str (nameNum a b)) u ∧ Below w.heap.size w w' := by
  have hmin : IntKind.i64.min = -9223372036854775808 := by decide
  have hmax : IntKind.i64.max = 9223372036854775807 := by decide
  simp only [Lit.wf, hmin, hmax, Bool.and_eq_true, decide_eq_true_eq] at wa wb
  have hH : HRel theTys w.heap.size (globEmb w 10) ⟨.l, Pos.ofNat 10⟩ w := HRel.start (T := theTys) (objs := []) h10 (by show (10 : Nat) < _; decide) (by intro p hp; cases hp)
  have str : ∀ u, VRel (globEmb w 10) (.str (nameNum a b)) u → VRel φ (.str (nameNum a b)) u := fun u h => h
  have hi : ∀ (n : Int) (w : World), -9223372036854775808 ≤ n → n ≤ 9223372036854775807 → Lib.TabIs Tryz.prog w "internal/strconv.uint64pow10" .u64 Lib.pow10Tab → CallsIn Fence.wide 0 Tryz.prog 12 #[.int .i64 n] w fun e w' => e = .returned (.string ⟨(Lib.itoa n).toArray⟩) ∧ Below w.heap.size w w' :=
    fun n w h0 h1 ht => callsIn_wide.2 (itoa_at n h0 h1 w ht)
  rcases hf with rfl | rfl
  · refine CallsIn.mono (?h : CallsIn Fence.wide 0 Tryz.prog _ _ w fun e w' => ∃ u, e = .returned u ∧ VRel (globEmb w 10) (.str (nameNum a b)) u ∧ Below w.heap.size w w') (fun e w' ⟨u, e1, e2, e3⟩ => ⟨u, e1, str u e2, e3⟩)
    exact name_calls (φ := globEmb w 10) theTys_ok Tryz.func5 Tryz.func12 (by kernel_rfl) rfl (fun _ _ => tab_later) hi (hb := rfl) rfl (by kernel_rfl) (by kernel_rfl) (by kernel_rfl) rfl rfl rfl rfl rfl (by kernel_rfl) (by kernel_rfl) (by kernel_rfl) rfl rfl rfl rfl rfl (by kernel_rfl) (by kernel_rfl) (by omega) (by omega) (by omega) (by omega) (by kernel_rfl) hH htab
  · refine CallsIn.mono (?h : CallsIn Fence.wide 0 Tryz.prog _ _ w fun e w' => ∃ u, e = .returned u ∧ VRel (globEmb w 10) (.str (nameNum a b)) u ∧ Below w.heap.size w w') (fun e w' ⟨u, e1, e2, e3⟩ => ⟨u, e1, str u e2, e3⟩)
    exact name_calls (φ := globEmb w 10) theTys_ok Tryz.func6 Tryz.func12 (by kernel_rfl) rfl (fun _ _ => tab_later) hi (hb := rfl) rfl (by kernel_rfl) (by kernel_rfl) (by kernel_rfl) rfl rfl rfl rfl rfl (by kernel_rfl) (by kernel_rfl) (by kernel_rfl) rfl rfl rfl rfl rfl (by kernel_rfl) (by kernel_rfl) (by omega) (by omega) (by omega) (by omega) (by kernel_rfl) hH htab

theorem ten {W : World} (hL : laidMetH Tryz.prog laidL W) : 10 ≤ W.heap.size := by
  obtain ⟨k, hk⟩ := (start hL).1.glob 9 (by show (9 : Nat) < 10; decide)
  have := ((start hL).1.low _ _ hk).2
  show 9 < _
  exact this

theorem walk (a b : Int) (wa : (Lit.int .i64 a).wf = true) (wb : (Lit.int .i64 b).wf = true) (W : World) (hL : laidMetH Tryz.prog laidL W) :
    Calls Tryz.prog 3 #[.int .i64 a, .int .i64 b] W fun e W' => e = .returned (.bool true) ∧ Below W.heap.size W W' := by
  obtain ⟨hH, htab⟩ := start hL
  have hR : Go.Am.Returns Tryz.prog theTys W.heap.size (globEmb W 10) hp0 W 3 #[.int .i64 a, .int .i64 b] (.bool true) memL.h1 := by
    refine law_names theTys_ok Tryz.func3 (by kernel_rfl) Tryz.func4 (by kernel_rfl) rfl Tryz.func5 (by kernel_rfl) rfl Tryz.func6 (by kernel_rfl) rfl (first_ok hH) (fun φ' w' hS => ?_) (fun φ' w' hS => ?_) (hb := rfl) rfl (by kernel_rfl) (by kernel_rfl) rfl rfl rfl rfl rfl (by kernel_rfl)
      (by kernel_rfl) (by kernel_rfl) (by kernel_rfl) (by kernel_rfl) (by kernel_rfl) (by kernel_rfl) (by kernel_rfl) (by kernel_rfl) (by kernel_rfl) rfl rfl rfl rfl rfl (by kernel_rfl) (by kernel_rfl) (by kernel_rfl) (by kernel_rfl) (by kernel_rfl) (by kernel_rfl) rfl rfl rfl rfl (by kernel_rfl) (by kernel_rfl) (by kernel_rfl) (by kernel_rfl) hH
    · exact names_at (.inl rfl) wa wb (Nat.le_trans (ten hL) hS.below.size) (tab_later htab hS.below)
    · exact names_at (.inr rfl) wa wb (Nat.le_trans (ten hL) hS.below.size) (tab_later htab hS.below)
  exact hR.calls fun u φ' w' hv hS => by
    have hv : u = .bool true := hv
    subst hv
    exact ⟨rfl, hS.below⟩

set_option maxRecDepth 100000 in
theorem lifted (os : Os) (started : os.Started) (H : Type) (enc : TypeId × Value → H) :
    ReturnsInHanded {} Tryz.checked os 3 .any (fun w args => (Rows.extractNamesSpec.pre enc Tryz.prog Tryz.f3 Rows.extractNamesRow.domain false w args ∧ laidMetH Tryz.prog laidL w) ∧ sizedMet enc Tryz.prog Tryz.f3 (OpenSpec.ofChange Rows.extractNamesSpec) false w args)
      (Rows.extractNamesSpec.post enc Tryz.prog Tryz.f3 false true false false) := by
  refine returnsInHanded_of_change_and (C := Tryz.checked) (X := fun w _ => laidMetH Tryz.prog laidL w) (fun _ _ _ hh h => h.of_heap hh) own started (by kernel_rfl) Tryz.func3
    (ChangeSpec.witness_shaped (enc := enc) (C := Tryz.checked) (os := os) (X := fun w _ => laidMetH Tryz.prog laidL w) false (World.laidAll Tryz.prog os laidL) #[.int .i64 0, .int .i64 0] 8 (World.laidAll_os _ _ _)
      (World.shaped_of_ZipB (by kernel_rfl) (by kernel_rfl)) (by kernel_rfl) (by kernel_rfl) (by kernel_rfl)
      (by rw [MakeChecks.laidMetH_plain _ _ _ (by kernel_rfl)]; exact laidMet_laidAll _ (by kernel_rfl) (by kernel_rfl))) ?_
  intro W base args ds gs before hval0 hW hc _ hL _
  have hval : ∀ (j : Nat) t v, Tryz.f3.params[j]? = some t → args[j]? = some v → Value.okWide Tryz.prog W .any base t v := hval0
  have hW' := hW
  obtain ⟨p, q, hA0, hV, rfl, _, _⟩ := hW
  have hA : DataW.TrodAll enc Tryz.prog W 0 (fun _ => true) true Tryz.f3.params.toList args.toList ds p := hA0
  rw [Tryz.params3] at hA hval
  obtain ⟨v0, vs0, d0, ds0, p0, q0, hargs, rfl, rfl, h0, r0⟩ := trodAll_cons hA
  obtain ⟨v1, vs1, d1, ds1, p1, q1, rfl, rfl, rfl, h1, r1⟩ := trodAll_cons r0
  obtain ⟨rfl, rfl, rfl⟩ := trodAll_nil r1
  obtain rfl : args = #[v0, v1] := by cases args; simp_all
  obtain ⟨rfl, rfl⟩ := trodVars_none hV
  obtain ⟨a0, rfl, rfl, rfl, w0⟩ := open_int Tryz.underlying3 (hval 0 3 v0 rfl rfl) h0
  obtain ⟨a1, rfl, rfl, rfl, w1⟩ := open_int Tryz.underlying3 (hval 1 3 v1 rfl rfl) h1
  clear hA0 hval0
  simp only [List.append_nil] at hW'
  refine (walk a0 a1 w0 w1 W hL).mono fun e W' ⟨he, hb⟩ => ?_
  subst he
  exact ⟨_, rfl, post_of_below (pa := []) (pv := []) hW' (fun _ _ _ => trodAll_mk1 (shut_bool Tryz.underlying4 _)) (fun sp _ => (trodAll_cons_mk (shut_int Tryz.underlying3 w0) (trodAll_cons_mk (shut_int Tryz.underlying3 w1) trodAll_mk0))) (fun _ _ => rfl) rfl
    hb (ok_one (by kernel_rfl) rfl (okWide_bool_mk Tryz.underlying4 _))⟩

end Go.Proofs.YthdompljhpeimaaGreatDoor
end
