/- Part of the proof: AmEncLaw. -/
import Derived.Test.YtkajhokkaadiiaaGreatDoorFirst
import Derived.Test.YtkajhokkaadiiaaGreatDoorLawEnv
import Derived.Test.YtkajhokkaadiiaaGreatDoorAm26
import Derived.Carry
import Derived.ChangeSlices
import Derived.Test.YtkajhokkaadiiaaGreatDoorTie
import Derived.Test.YtkajhokkaadiiaaGreatDoorCards
import Derived.WalkKit
import Derived.ProofKit
import Derived.OpenShut
import Derived.LaidMore
import Derived.Lay
import Derived.SevenTiedAt
import Derived.Stop.Joined
import Derived.Lib.ItoaLen
import Derived.Test.YtkajhokkaadiiaaGreatDoorLay
section
namespace Go.Proofs.YtkajhokkaadiiaaGreatDoor
open Go.ChangeShapes Go.WideShapes Go.ChangeAt Go.RowKit Go.Am

theorem own : ownKnob Tryz.prog.godebug = none := by kernel_rfl
abbrev laidL : List (String × DataW Unit) := Rows.decompEncodesRow.laid
def crcZ : List Int := [0, 79764919, 159529838, 222504665, 319059676, 398814059, 445009330, 507990021, 638119352, 583659535, 797628118, 726387553, 890018660, 835552979, 1015980042, 944750013]
def bruZ : List Int := [0, 1, 56, 2, 57, 49, 28, 3, 61, 58, 42, 50, 38, 29, 17, 4, 62, 47, 59, 36, 45, 43, 51, 22, 53, 39, 33, 30, 24, 18, 12, 5, 63, 55, 48, 27, 60, 41, 37, 16, 46, 35, 44, 21, 52, 32, 23, 11, 54, 26, 40, 15, 34, 20, 31, 10, 25, 14, 19, 9, 13, 8, 7, 6]
def shapeZ : List (List UInt8 × Int) := [([109, 97, 110, 105, 102, 101, 115, 116], 0), ([99, 111, 114, 101], 1), ([111, 114, 100, 101, 114], 1), ([110, 101, 115, 116], 1), ([99, 107, 112, 116], 1), ([115], 2), ([120], 2), ([120], 3)]

theorem start {W : World} (hL : laidMetH Tryz.prog laidL W) : HRel theTys W.heap.size (globEmb W 10) hp0 W ∧ Lib.TabIs Tryz.prog W "internal/strconv.uint64pow10" .u64 Lib.pow10Tab := by
  rw [MakeChecks.laidMetH_plain _ _ _ (by kernel_rfl)] at hL
  have h1 := (lies_tab (name := "pith/crc.table") (k := .u32) (zs := crcZ) hL (List.mem_of_getElem? (i := 3) (by kernel_rfl)) (g := 4) (t := 355) (e := 89) (n := 16) (by kernel_rfl) (by kernel_rfl) (by kernel_rfl) (by kernel_rfl) (by kernel_rfl) (by kernel_rfl)).1
  have h5 := (lies_tab (name := "math/bits.deBruijn64tab") (k := .u8) (zs := bruZ) hL (List.mem_of_getElem? (i := 1) (by kernel_rfl)) (g := 3) (t := 348) (e := 5) (n := 64) (by kernel_rfl) (by kernel_rfl) (by kernel_rfl) (by kernel_rfl) (by kernel_rfl) (by kernel_rfl)).1
  have h2 := (lies_tab (name := "internal/strconv.uint64pow10") (k := .u64) (zs := Lib.pow10Tab) hL (List.mem_of_getElem? (i := 2) (by kernel_rfl)) (g := 0) (t := 298) (e := 246) (n := 20) (by kernel_rfl) (by kernel_rfl) (by kernel_rfl) (by kernel_rfl) (by kernel_rfl) (by kernel_rfl)).2
  have h0 := lies_pairs (name := "pith/manifest.shapes") (ss := shapeZ) hL (List.mem_of_getElem? (i := 7) (by kernel_rfl)) (g := 1) (t := 322) (e := 321) (n := 8) (by kernel_rfl) (by kernel_rfl) Tryz.underlying322 Tryz.underlying321 (by kernel_rfl) (by kernel_rfl) rfl rfl (by kernel_rfl) (by kernel_rfl) (by kernel_rfl) (by kernel_rfl)
  have h9 : 10 ≤ W.heap.size := by
    obtain ⟨ps, hv, _⟩ := hL
    obtain ⟨g, t, cs, fuel, p, hg, _, hv, _⟩ := laid_row (n := "unicode/utf8.acceptRanges") (d := Rows.laid_unicode_utf8_acceptRanges) hv (List.mem_of_getElem? (i := 4) (by kernel_rfl))
    obtain rfl := Option.some.inj ((show Tryz.prog.globalNamed "unicode/utf8.acceptRanges" = some 9 by kernel_rfl).symm.trans hg)
    obtain ⟨e, fz, hb⟩ := block_of_var hg hv
    have := (Array.getElem?_eq_some_iff.1 hb).1
    omega
  refine ⟨?_, h2⟩
  have hS := HRel.start (T := theTys) (objs := [(4, crcZ.map (AVal.int .u32)), (3, bruZ.map (AVal.int .u8)), (1, pairCells shapeZ)]) h9 (by show (10 : Nat) < _; decide) (by
    intro p hp
    simp only [List.mem_cons, List.not_mem_nil, or_false] at hp
    rcases hp with rfl | rfl | rfl
    · exact ⟨by show (4 : Nat) < 10; decide, h1⟩
    · exact ⟨by show (3 : Nat) < 10; decide, h5⟩
    · exact ⟨by show (1 : Nat) < 10; decide, h0⟩)
  have he : hp0 = ⟨putAll ([(4, crcZ.map (AVal.int .u32)), (3, bruZ.map (AVal.int .u8)), (1, pairCells shapeZ)].map fun p => (p.1, AObj.cells p.2 false true)) .l, Pos.ofNat theTys.ng⟩ := eqvH_eq _ _ (by kernel_rfl)
  rw [he]
  exact hS

theorem cFirst {W : World} (hL : laidMetH Tryz.prog laidL W) : Calls Tryz.prog 6 #[] W fun e W' => e = .returned (.bool true) ∧ Below W.heap.size W W' :=
  (first_ok (start hL).1).calls fun u φ' w' hv hS => by
    have hv : u = .bool true := hv
    subst hv
    exact ⟨rfl, hS.below⟩

theorem tab_later {W W' : World} (h : Lib.TabIs Tryz.prog W "internal/strconv.uint64pow10" .u64 Lib.pow10Tab) (hb : Below W.heap.size W W') : Lib.TabIs Tryz.prog W' "internal/strconv.uint64pow10" .u64 Lib.pow10Tab := by
  unfold Lib.TabIs at h ⊢
  have hg : Tryz.prog.globalNamed "internal/strconv.uint64pow10" = some 0 := by kernel_rfl
  obtain ⟨e, fz, hc⟩ := block_of_var hg h
  have hlt := (Array.getElem?_eq_some_iff.1 hc).1
  simp only [World.var?, hg, Option.bind_some, hb.block 0 hlt]
  simpa only [World.var?, hg, Option.bind_some] using h

theorem itoa_at (n : Int) (h0 : -9223372036854775808 ≤ n) (h1 : n ≤ 9223372036854775807) (w : World) (htab : Lib.TabIs Tryz.prog w "internal/strconv.uint64pow10" .u64 Lib.pow10Tab) :
    Calls Tryz.prog 33 #[.int .i64 n] w fun e w' => e = .returned (.string ⟨(Lib.itoa n).toArray⟩) ∧ Below w.heap.size w w' :=
  (Any.strconv_Itoa Tryz.itoa n h0 h1 w htab).mono fun e w' ⟨he, k, os, hw⟩ => by
    subst hw
    refine ⟨he, rfl, rfl, rfl, ?_, fun j hj => ?_⟩
    · simp [Sort.grow, World.drewN]
    · show (w.heap ++ os)[j]? = w.heap[j]?
      rw [Array.getElem?_append_left hj]

def coreN (a : Int) : List Nat := [99, 111, 114, 101, 46] ++ nums (Lib.itoa a)
theorem names_at {f : FuncId} (hf : f = 7 ∨ f = 8) {a : Int} (wa : (Lit.int .i64 a).wf = true) {φ : Emb} {w : World} (h10 : 10 ≤ w.heap.size) (htab : Lib.TabIs Tryz.prog w "internal/strconv.uint64pow10" .u64 Lib.pow10Tab) :
    CallsIn Fence.wide 0 Tryz.prog f #[.int .i64 a] w fun e w' => ∃ u, e = .returned u ∧ VRel φ (.str (coreN a)) u ∧ Below w.heap.size w w' := by
  have hmin : IntKind.i64.min = -9223372036854775808 := by decide
  have hmax : IntKind.i64.max = 9223372036854775807 := by decide
  simp only [Lit.wf, hmin, hmax, Bool.and_eq_true, decide_eq_true_eq] at wa
  have hH : HRel theTys w.heap.size (globEmb w 10) ⟨.l, Pos.ofNat 10⟩ w := HRel.start (T := theTys) (objs := []) h10 (by show (10 : Nat) < _; decide) (by intro p hp; cases hp)
  have str : ∀ u, VRel (globEmb w 10) (.str (coreN a)) u → VRel φ (.str (coreN a)) u := fun u h => h
  have hi : ∀ (n : Int) (w : World), -9223372036854775808 ≤ n → n ≤ 9223372036854775807 → Lib.TabIs Tryz.prog w "internal/strconv.uint64pow10" .u64 Lib.pow10Tab → CallsIn Fence.wide 0 Tryz.prog 33 #[.int .i64 n] w fun e w' => e = .returned (.string ⟨(Lib.itoa n).toArray⟩) ∧ Below w.heap.size w w' :=
    fun n w h0 h1 ht => callsIn_wide.2 (itoa_at n h0 h1 w ht)
  rcases hf with rfl | rfl
  · refine CallsIn.mono (?h : CallsIn Fence.wide 0 Tryz.prog _ _ w fun e w' => ∃ u, e = .returned u ∧ VRel (globEmb w 10) (.str (coreN a)) u ∧ Below w.heap.size w w') (fun e w' ⟨u, e1, e2, e3⟩ => ⟨u, e1, str u e2, e3⟩)
    exact name1_calls (φ := globEmb w 10) (pre := [99, 111, 114, 101, 46]) theTys_ok Tryz.func7 Tryz.func33 (by kernel_rfl) rfl hi (by decide) (hb := rfl) rfl (by kernel_rfl) (by kernel_rfl) (by kernel_rfl) rfl rfl rfl rfl rfl (by kernel_rfl) (by kernel_rfl) (by omega) (by omega) (by kernel_rfl) hH htab
  · refine CallsIn.mono (?h : CallsIn Fence.wide 0 Tryz.prog _ _ w fun e w' => ∃ u, e = .returned u ∧ VRel (globEmb w 10) (.str (coreN a)) u ∧ Below w.heap.size w w') (fun e w' ⟨u, e1, e2, e3⟩ => ⟨u, e1, str u e2, e3⟩)
    exact name1_calls (φ := globEmb w 10) (pre := [99, 111, 114, 101, 46]) theTys_ok Tryz.func8 Tryz.func33 (by kernel_rfl) rfl hi (by decide) (hb := rfl) rfl (by kernel_rfl) (by kernel_rfl) (by kernel_rfl) rfl rfl rfl rfl rfl (by kernel_rfl) (by kernel_rfl) (by omega) (by omega) (by kernel_rfl) hH htab

theorem ten {W : World} (hL : laidMetH Tryz.prog laidL W) : 10 ≤ W.heap.size := by
  obtain ⟨k, hk⟩ := (start hL).1.glob 9 (by show (9 : Nat) < 10; decide)
  have := ((start hL).1.low _ _ hk).2
  show 9 < _
  exact this

/-- The law, of an argument that can be read. -/
theorem walk {φ : Emb} {H : AHeap} {xv : AVal} {zs : List Int} {vs : Array Value} (gen at' to' : Int) (wa : (Lit.int .i64 gen).wf = true) (W : World) (hL : laidMetH Tryz.prog laidL W) (hH : HRel theTys W.heap.size φ H W) (hx : Reads H.nx.toNat H xv (zcells zs)) (hl : LRel φ [.int .i64 gen, xv, .int .i64 at', .int .i64 to'] vs.toList) :
    Calls Tryz.prog 3 vs W fun e W' => e = .returned (.bool true) ∧ Below W.heap.size W W' := by
  refine (callsIn_wide (n := 0)).1 ?_
  refine law_enc (E := lawEnv) (restA := encRest) (N := zs.length) (s := coreN gen) theTys_ok (fun n => sound theTys_ok (lawEnv_ok _) mixed_ok n) (hrestA := ?hr) Tryz.func3 Tryz.func6 (by kernel_rfl) rfl Tryz.func7 (by kernel_rfl) rfl Tryz.func8 (by kernel_rfl) rfl hl
    (fun t ht => by rw [hx.len (by simpa [AOpnd.ev] using ht), zcells_length]) (callsIn_wide.2 (cFirst hL))
    (fun w' hb => names_at (.inl rfl) wa (Nat.le_trans (ten hL) hb.size) (tab_later (start hL).2 hb)) (fun w' hb => names_at (.inr rfl) wa (Nat.le_trans (ten hL) hb.size) (tab_later (start hL).2 hb))
    (fun hN t h0 h1 h2 h3 => ?_) (hb := rfl) rfl (by kernel_rfl) (by kernel_rfl) rfl rfl rfl rfl rfl (by kernel_rfl)
    (by kernel_rfl) (by kernel_rfl) (by kernel_rfl) (by kernel_rfl) (by kernel_rfl) (by kernel_rfl) (by kernel_rfl) (by kernel_rfl) (by kernel_rfl) (by kernel_rfl) (by kernel_rfl) (by kernel_rfl)
    rfl rfl rfl rfl (by kernel_rfl) (by kernel_rfl) (by kernel_rfl) rfl rfl rfl rfl (by kernel_rfl) (by kernel_rfl) (by kernel_rfl) (by kernel_rfl) hH
  case hr => kernel_rfl
  obtain ⟨e, aa', H', ⟨n0, hev⟩, rfl, hds, h8⟩ := enc_rest codeOk (gen := gen) (at' := at') (to' := to') hx (Nat.le_refl _) hN h0 h1 h2 h3
  exact ⟨n0, aa', H', hev n0 (Nat.le_refl _), hds, h8⟩
end Go.Proofs.YtkajhokkaadiiaaGreatDoor
end
