/- Part of the proof: AmDecStart. -/
import Derived.Test.YtkajhokkaadiiaaGreatDoorFirst
import Derived.Test.YtkajhokkaadiiaaGreatDoorDecEnv
import Derived.Carry
import Derived.ChangeSlices
import Derived.Test.YtkajhokkaadiiaaGreatDoorTie
import Derived.Test.YtkajhokkaadiiaaGreatDoorCards
import Derived.WalkKit
import Derived.ProofKit
import Derived.OpenShut
import Derived.LaidMore
import Derived.Lay
import Derived.SevenTiedAt
import Derived.Stop.Joined
import Derived.JoinedCond
import Derived.Deep.DeepHandedRow
set_option linter.unusedSimpArgs false
set_option linter.unusedVariables false
section
namespace Go.Proofs.YtkajhokkaadiiaaGreatDoor
open Go.ChangeShapes Go.WideShapes Go.ChangeAt Go.RowKit Go.Am

theorem own : ownKnob Tryz.prog.godebug = none := by kernel_rfl
abbrev laidL : List (String × DataW Unit) := Rows.decompDecodesUptoRow.laid
def crcZ : List Int := [0, 79764919, 159529838, 222504665, 319059676, 398814059, 445009330, 507990021, 638119352, 583659535, 797628118, 726387553, 890018660, 835552979, 1015980042, 944750013]
def bruZ : List Int := [0, 1, 56, 2, 57, 49, 28, 3, 61, 58, 42, 50, 38, 29, 17, 4, 62, 47, 59, 36, 45, 43, 51, 22, 53, 39, 33, 30, 24, 18, 12, 5, 63, 55, 48, 27, 60, 41, 37, 16, 46, 35, 44, 21, 52, 32, 23, 11, 54, 26, 40, 15, 34, 20, 31, 10, 25, 14, 19, 9, 13, 8, 7, 6]
def shapeZ : List (List UInt8 × Int) := [([109, 97, 110, 105, 102, 101, 115, 116], 0), ([99, 111, 114, 101], 1), ([111, 114, 100, 101, 114], 1), ([110, 101, 115, 116], 1), ([99, 107, 112, 116], 1), ([115], 2), ([120], 2), ([120], 3)]
def tabs : List (Nat × List AVal) := [(4, crcZ.map (AVal.int .u32)), (3, bruZ.map (AVal.int .u8)), (1, pairCells shapeZ)]

/-- What the row's list says, as the machine needs it. -/
theorem start {W : World} (hL : laidMetH Tryz.prog laidL W) : (∀ q ∈ tabs, q.1 < theTys.ng ∧ Lies W q.1 q.2 ∧ q.2.all flatV = true) ∧ theTys.ng ≤ W.heap.size ∧ ∃ arr e fz, W.heap[0]? = some (.cells arr e fz) := by
  rw [MakeChecks.laidMetH_plain _ _ _ (by kernel_rfl)] at hL
  have h1 := (lies_tab (name := "pith/crc.table") (k := .u32) (zs := crcZ) hL (List.mem_of_getElem? (i := 3) (by kernel_rfl)) (g := 4) (t := 355) (e := 89) (n := 16) (by kernel_rfl) (by kernel_rfl) (by kernel_rfl) (by kernel_rfl) (by kernel_rfl) (by kernel_rfl)).1
  have h5 := (lies_tab (name := "math/bits.deBruijn64tab") (k := .u8) (zs := bruZ) hL (List.mem_of_getElem? (i := 1) (by kernel_rfl)) (g := 3) (t := 348) (e := 5) (n := 64) (by kernel_rfl) (by kernel_rfl) (by kernel_rfl) (by kernel_rfl) (by kernel_rfl) (by kernel_rfl)).1
  have h2 := (lies_tab (name := "internal/strconv.uint64pow10") (k := .u64) (zs := Lib.pow10Tab) hL (List.mem_of_getElem? (i := 2) (by kernel_rfl)) (g := 0) (t := 298) (e := 246) (n := 20) (by kernel_rfl) (by kernel_rfl) (by kernel_rfl) (by kernel_rfl) (by kernel_rfl) (by kernel_rfl)).2
  have h0 := lies_pairs (name := "pith/manifest.shapes") (ss := shapeZ) hL (List.mem_of_getElem? (i := 7) (by kernel_rfl)) (g := 1) (t := 322) (e := 321) (n := 8) (by kernel_rfl) (by kernel_rfl) Tryz.underlying322 Tryz.underlying321 (by kernel_rfl) (by kernel_rfl) rfl rfl (by kernel_rfl) (by kernel_rfl) (by kernel_rfl) (by kernel_rfl)
  have h9 : 10 ≤ W.heap.size := by
    obtain ⟨ps, hv, _⟩ := hL
    obtain ⟨g, t, cs, fuel, p, hg, _, hv, _⟩ := laid_row (n := "unicode/utf8.acceptRanges") (d := Rows.laid_unicode_utf8_acceptRanges) hv (List.mem_of_getElem? (i := 4) (by kernel_rfl))
    obtain rfl := Option.some.inj ((show Tryz.prog.globalNamed "unicode/utf8.acceptRanges" = some 9 by kernel_rfl).symm.trans hg)
    obtain ⟨e, fz, hb⟩ := block_of_var hg hv
    have := (Array.getElem?_eq_some_iff.1 hb).1
    omega
  refine ⟨?_, h9, ?_⟩
  · intro q hq
    simp only [tabs, List.mem_cons, List.not_mem_nil, or_false] at hq
    rcases hq with rfl | rfl | rfl
    · exact ⟨by show (4 : Nat) < 10; decide, h1, by kernel_rfl⟩
    · exact ⟨by show (3 : Nat) < 10; decide, h5, by kernel_rfl⟩
    · exact ⟨by show (1 : Nat) < 10; decide, h0, by kernel_rfl⟩
  · have hg : Tryz.prog.globalNamed "internal/strconv.uint64pow10" = some 0 := by kernel_rfl
    obtain ⟨e, fz, hc⟩ := block_of_var hg h2
    exact ⟨_, e, fz, hc⟩
theorem hp0_tabs : hp0 = tabH theTys.ng tabs := eqvH_eq _ _ (by kernel_rfl)
theorem firstS {W : World} (hL : laidMetH Tryz.prog laidL W) : CallS (lawEnv W.heap.size) 6 [] (absH W) (.bool true) (absH W) := by
  obtain ⟨h1, h2, _⟩ := start hL
  refine sum_call (.inl rfl) (closed_oracle (objs := tabs) (h1 := memL.h1) h2 (by show (10 : Nat) < _; decide) h1 rfl fun φ w hH => ?_)
  rw [← hp0_tabs] at hH ⊢
  exact first_ok hH
theorem cells3 : Tryz.prog.cellsOf 3 = 1 := by kernel_rfl
theorem cells5 : Tryz.prog.cellsOf 5 = 1 := by kernel_rfl
theorem cells26 : Tryz.prog.cellsOf 26 = 1 := by kernel_rfl
theorem laidOut : laidOutB Tryz.prog = true := by kernel_rfl

/-! What the bound gives. -/
theorem lits_bulk {H : Type} (k : IntKind) : ∀ (zs : List Int), Rows.uptoBulkAll (lits (H := H) k zs) = zs.length
  | [] => by simp [lits, Rows.uptoBulkAll]
  | z :: zs => by
    have := lits_bulk (H := H) k zs
    simp only [lits, List.map_cons, Rows.uptoBulkAll, Rows.uptoBulk, List.length_cons] at this ⊢
    omega
theorem total_le {H : Type} : ∀ (uss : List (List Nat)) (ys : List (DataW H)), ys.length = uss.length → (∀ (i : Nat) y us, ys[i]? = some y → uss[i]? = some us → (y = .nil ∧ us = [] ∨ ∃ zs sp, y = .slice (lits .u8 zs) sp ∧ us.length = zs.length)) → (uss.flatMap id).length ≤ Rows.uptoBulkAll ys
  | [], ys, _, _ => by simp
  | us :: uss, [], h, _ => by simp at h
  | us :: uss, y :: ys, h, hh => by
    have h1 := total_le uss ys (by simpa using h) (fun i y us e1 e2 => hh (i + 1) y us (by simpa using e1) (by simpa using e2))
    have h2 : us.length ≤ Rows.uptoBulk y := by
      rcases hh 0 y us rfl rfl with ⟨rfl, rfl⟩ | ⟨zs, sp, rfl, hl⟩
      · simp
      · simp only [Rows.uptoBulk, lits_bulk]; omega
    simp only [List.flatMap_cons, List.length_append, id, Rows.uptoBulkAll]
    omega
theorem bulk_at {H : Type} : ∀ {l : List (DataW H)} {d : DataW H}, d ∈ l → Rows.uptoBulk d ≤ Rows.uptoBulkAll l
  | x :: l, d, h => by
    simp only [Rows.uptoBulkAll]
    rcases List.mem_cons.1 h with rfl | h
    · omega
    · have := bulk_at h; omega
theorem one_le {H : Type} (d : DataW H) : 1 ≤ Rows.uptoBulk d := by
  cases d with
  | lit l => cases l <;> simp [Rows.uptoBulk]
  | nil => simp [Rows.uptoBulk]
  | ptr d => simp [Rows.uptoBulk]
  | slice elems spare => simp [Rows.uptoBulk]
  | agg parts => simp [Rows.uptoBulk]
  | iface t d => simp [Rows.uptoBulk]
  | map entries => simp [Rows.uptoBulk]
  | held h => simp [Rows.uptoBulk]
theorem length_le {H : Type} : ∀ (l : List (DataW H)), l.length ≤ Rows.uptoBulkAll l
  | [] => by simp
  | x :: r => by have := one_le x; have := length_le r; simp only [Rows.uptoBulkAll, List.length_cons]; omega
end Go.Proofs.YtkajhokkaadiiaaGreatDoor
end
