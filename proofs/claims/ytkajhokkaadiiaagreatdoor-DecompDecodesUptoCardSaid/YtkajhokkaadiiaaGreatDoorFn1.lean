/- Part of the proof: AmF1, AmF2, AmF3. -/
import Derived.Test.YtkajhokkaadiiaaGreatDoorCode
import Derived.Test.YtkajhokkaadiiaaGreatDoorAm25
set_option linter.unusedSimpArgs false
set_option linter.unusedVariables false
section
namespace Go.Am
open Go

/-- The code of the functions. -/
structure CodeOk (E : Env) : Prop where
  s : ∀ p, (Pos.beq p (Pos.ofNat 6) || Pos.beq p (Pos.ofNat 22)) = false → PT.get p E.sums = none
  f9 : PT.get (Pos.ofNat 9) E.fns = some g9
  f10 : PT.get (Pos.ofNat 10) E.fns = some g10
  f11 : PT.get (Pos.ofNat 11) E.fns = some g11
  f12 : PT.get (Pos.ofNat 12) E.fns = some g12
  f13 : PT.get (Pos.ofNat 13) E.fns = some g13
  f14 : PT.get (Pos.ofNat 14) E.fns = some g14
  f15 : PT.get (Pos.ofNat 15) E.fns = some g15
  f34 : PT.get (Pos.ofNat 34) E.fns = some g34
  f35 : PT.get (Pos.ofNat 35) E.fns = some g35
  f36 : PT.get (Pos.ofNat 36) E.fns = some g36
  f37 : PT.get (Pos.ofNat 37) E.fns = some g37
  f38 : PT.get (Pos.ofNat 38) E.fns = some g38
  f68 : PT.get (Pos.ofNat 68) E.fns = some g68
  f69 : PT.get (Pos.ofNat 69) E.fns = some g69

theorem bytesOf_cells : ∀ (us : List Nat), bytesOf (cellsOfBytes us) = some us
  | [] => rfl
  | u :: us => by simp only [cellsOfBytes, bytesOf, bytesOf_cells us]
theorem cells_length : ∀ (us : List Nat), (cellsOfBytes us).length = us.length
  | [] => rfl
  | u :: us => by simp only [cellsOfBytes, List.length_cons, cells_length us]
theorem conv_reads {n : Nat} {H : AHeap} {v : AVal} {us : List Nat} (h : Reads n H v (cellsOfBytes us)) (hu : ∀ u ∈ us, u < 256) {t : PT AVal} {x : AOpnd} (hx : x.ev t = v) : quiet t H (.conv .bytesStr x) = some (.str us) := by
  have ha : (us.all fun n => Nat.blt n 256) = true := by
    rw [List.all_eq_true]
    exact fun u hu' => blt_t (hu u hu')
  rcases h with ⟨rfl, h⟩ | ⟨b, o, cap, sz, rfl, h, _⟩
  · have : us = [] := by
      cases us with
      | nil => rfl
      | cons u us => cases h
    subst this
    simp [quiet, hx]
  · simp [quiet, hx, h, bytesOf_cells, ha]
theorem strEq_self : ∀ (us : List Nat), strEq us us = true
  | [] => rfl
  | u :: us => by simp [strEq, strEq_self us]

section
variable {E : Env} (C : CodeOk E)
include C

theorem same_bytes {n : Nat} {H : AHeap} {x y : AVal} {us : List Nat} (hx : Reads n H x (cellsOfBytes us)) (hy : Reads n H y (cellsOfBytes us)) (hu : ∀ u ∈ us, u < 256) : CallS E 13 [x, y] H (.bool true) H := by
  suffices h : ∃ v H', CallS E 13 [x, y] H v H' ∧ v = .bool true ∧ H' = H by obtain ⟨v, H', h, rfl, rfl⟩ := h; exact h
  refine CallS.by (t0 := tput (tput .l (some (Pos.ofNat 0)) x) (some (Pos.ofNat 1)) y) (C.s _ rfl) rfl C.f13 rfl ?_
  refine W.seq (W.region ?_)
  refine WO.go rfl rfl (fun rec => rfl) (WO.nil ?_)
  refine W.seq (W.region ?_)
  refine WO.go rfl rfl (fun rec => rfl) ?_
  refine WO.go (v := .str us) (H' := H) rfl rfl (fun rec => by simp only [execA, write]; rw [conv_reads hx hu (by simp [AOpnd.ev, tget_puts])]) ?_
  refine WO.go rfl rfl (fun rec => rfl) ?_
  refine WO.go (v := .str us) (H' := H) rfl rfl (fun rec => by simp only [execA, write]; rw [conv_reads hy hu (by simp [AOpnd.ev, tget_puts])]) ?_
  refine WO.go (v := .bool true) (H' := H) rfl rfl (fun rec => by simp [execA, write, quiet, AOpnd.ev, tget_puts, binOpA, strBin, strEq_self]) ?_
  refine WO.go rfl rfl (fun rec => rfl) (WO.nil (W.ret ?_))
  exact ⟨.inr rfl, rfl, .bool true, by simp [resultA, g13, AOpnd.ev, tget_puts], rfl, rfl⟩
end
end Go.Am
end

section
namespace Go.Am
open Go

theorem add_ok {i k : Nat} (h : i + k ≤ 9223372036854775807) : binOpA .add (.int .i64 (.ofNat i)) (.int .i64 (.ofNat k)) = some (.int .i64 (.ofNat (i + k))) := by
  have : Nat.ble (i + k) 9223372036854775807 = true := ble_t h
  show some (AVal.int .i64 (wrapI .i64 (addI (.ofNat i) (.ofNat k)))) = _
  simp only [addI, wrapI, nadd, this]
theorem add_one {i : Nat} (h : i + 1 ≤ 9223372036854775807) : binOpA .add (.int .i64 (.ofNat i)) (.int .i64 1) = some (.int .i64 (.ofNat (i + 1))) := add_ok (k := 1) h
theorem write_mkSlice {t : PT AVal} {H : AHeap} {z : List AVal} {by' : Nat} {x y : AOpnd} {n c : Nat} {q q' : IntKind} (hx : x.ev t = .int q (.ofNat n)) (hy : y.ev t = .int q' (.ofNat c)) (h1 : n ≤ c) (h2 : c * by' ≤ 140737488355328) (h3 : c ≤ 140737488355328) :
    write t H (.mkSlice z by' x y) = some (.sl H.nx 0 n c 0, (H.new (.cells (repl z c) false false)).2) := by
  have e1 : Nat.ble n c = true := ble_t h1
  have e2 : Nat.ble (Nat.mul c by') 140737488355328 = true := ble_t h2
  have e3 : Nat.ble c 140737488355328 = true := ble_t h3
  simp only [write, hx, hy, natOf, e1, e2, e3]
  rfl
theorem lss_t {i j : Nat} (h : i < j) : binOpA .lss (.int .i64 (.ofNat i)) (.int .i64 (.ofNat j)) = some (.bool true) := by
  show some (AVal.bool (Nat.blt i j)) = _
  rw [blt_t h]
theorem lss_f {i j : Nat} (h : j ≤ i) : binOpA .lss (.int .i64 (.ofNat i)) (.int .i64 (.ofNat j)) = some (.bool false) := by
  show some (AVal.bool (Nat.blt i j)) = _
  rw [blt_f h]
theorem vcells_scal {v : AVal} (h : isScal v = true) : vcellsO v = some [v] := by
  cases v <;> simp_all [isScal, vcellsO]
theorem fill1 {z v : AVal} {t : PT AVal} {x : AOpnd} (hx : x.ev t = v) (h : isScal v = true) : fillA [z] t [(0, 1, x)] = some [v] := by
  simp [fillA, hx, vcells_scal h, lput, lover]
theorem scal_at : ∀ {l : List AVal} (i : Nat) (hi : i < l.length), allScal l = true → isScal l[i] = true
  | v :: l, 0, _, h => by
    simp only [allScal] at h
    cases hv : isScal v <;> simp_all
  | v :: l, i + 1, hi, h => by
    simp only [allScal] at h
    cases hv : isScal v <;> simp only [hv] at h
    · cases h
    · simpa using scal_at i (by simpa using hi) h
theorem scal_one {v : AVal} (h : isScal v = true) : allScal [v] = true := by simp [allScal, h]
theorem src_new {H : AHeap} {l : List AVal} {op ro : Bool} : srcCells (H.new (.cells l op ro)).2 1 (.sl H.nx 0 l.length l.length 0) = some (l.length, l) := by
  unfold srcCells
  simp only [mul1]
  unfold hloadN
  rw [get_new]
  simp only
  rw [lsub_of (by omega)]
  simp
theorem repl1_length (v : AVal) : ∀ n, (repl [v] n).length = n
  | 0 => rfl
  | n + 1 => by simp [repl, repl1_length v n]
theorem quiet_idx {n : Nat} {H : AHeap} {v : AVal} {l : List AVal} (h : Reads n H v l) {i : Nat} (hi : i < l.length) {t : PT AVal} {x y : AOpnd} (hx : x.ev t = v) (hy : y.ev t = .int .i64 (.ofNat i)) : ∃ b o, quiet t H (.idxS 1 x y) = some (.ptr b o) ∧ hload H b o = some l[i] := by
  obtain ⟨b, o, cap, sz, rfl, h'⟩ := h.idx hi
  refine ⟨b, o + i, ?_, h'⟩
  simp only [quiet, hx, hy, natOf, blt_t hi, off1]

section
variable {E : Env} (C : CodeOk E)
include C
omit C in
theorem ints_loop {n : Nat} {H : AHeap} {x : AVal} {l : List AVal} (hx : Reads n H x l) (hn : n ≤ H.nx.toNat) (hs : allScal l = true) (hl : l.length * 8 ≤ 140737488355328) (k : Nat) :
    ∀ {i : Nat} {t : PT AVal} {v : AVal} {H1 : AHeap} {ro : Option Pos}, i + k = l.length → tget t (Pos.ofNat 0) = x → tget t (Pos.ofNat 3) = v → tget t (Pos.ofNat 4) = .int .i64 (.ofNat i) → Room H.nx.toNat H1 v (l.take i) l.length → Keep H.nx.toNat H H1 →
    W E (.loop g9l6) ro ⟨t, []⟩ H1 (fun e a H' => e = .exit 0 ∧ a.ds = [] ∧ Room H.nx.toNat H' (tget a.t (Pos.ofNat 3)) l l.length ∧ Keep H.nx.toNat H H') := by
  induction k with
  | zero =>
    intro i t v H1 ro hk h0 h3 h4 hroom hkeep
    have hi : i = l.length := by omega
    subst hi
    refine W.loop (W.seq (W.seq (W.region ?_)))
    refine WO.go (v := .int .i64 (.ofNat l.length)) (H' := H1) rfl rfl (fun rec => by simp [-Int.ofNat_eq_natCast, execA, write, quiet, AOpnd.ev, h4]) ?_
    refine WO.go (v := x) (H' := H1) rfl rfl (fun rec => by simp [-Int.ofNat_eq_natCast, execA, write, quiet, AOpnd.ev, tget_puts, h0]) ?_
    refine WO.go (v := .int .i64 (.ofNat l.length)) (H' := H1) rfl rfl (fun rec => by simp only [execA, write]; rw [(hx.keep hkeep hn).len (by simp [-Int.ofNat_eq_natCast, AOpnd.ev, tget_puts])]) ?_
    refine WO.go (v := .bool false) (H' := H1) rfl rfl (fun rec => by simp [-Int.ofNat_eq_natCast, execA, write, quiet, AOpnd.ev, tget_puts, lss_f]) (WO.nil ?_)
    refine W.cond_false (by simp [-Int.ofNat_eq_natCast, AOpnd.ev, tget_puts]) (W.exit ?_)
    exact ⟨rfl, rfl, by simpa [tget_puts, h3] using hroom, hkeep⟩
  | succ k ih =>
    intro i t v H1 ro hk h0 h3 h4 hroom hkeep
    have hlt : i < l.length := by omega
    refine W.loop (W.seq (W.seq (W.region ?_)))
    refine WO.go (v := .int .i64 (.ofNat i)) (H' := H1) rfl rfl (fun rec => by simp [-Int.ofNat_eq_natCast, execA, write, quiet, AOpnd.ev, h4]) ?_
    refine WO.go (v := x) (H' := H1) rfl rfl (fun rec => by simp [-Int.ofNat_eq_natCast, execA, write, quiet, AOpnd.ev, tget_puts, h0]) ?_
    refine WO.go (v := .int .i64 (.ofNat l.length)) (H' := H1) rfl rfl (fun rec => by simp only [execA, write]; rw [(hx.keep hkeep hn).len (by simp [-Int.ofNat_eq_natCast, AOpnd.ev, tget_puts])]) ?_
    refine WO.go (v := .bool true) (H' := H1) rfl rfl (fun rec => by simp [-Int.ofNat_eq_natCast, execA, write, quiet, AOpnd.ev, tget_puts, lss_t hlt]) (WO.nil ?_)
    refine W.cond_true (by simp [-Int.ofNat_eq_natCast, AOpnd.ev, tget_puts]) (W.skip ?_)
    simp only [andThen]
    refine W.seq (W.block (W.region ?_))
    refine WO.go (v := v) (H' := H1) rfl rfl (fun rec => by simp [-Int.ofNat_eq_natCast, execA, write, quiet, AOpnd.ev, tget_puts, h3]) ?_
    refine WO.go (v := x) (H' := H1) rfl rfl (fun rec => by simp [-Int.ofNat_eq_natCast, execA, write, quiet, AOpnd.ev, tget_puts, h0]) ?_
    refine WO.go (v := .int .i64 (.ofNat i)) (H' := H1) rfl rfl (fun rec => by simp [-Int.ofNat_eq_natCast, execA, write, quiet, AOpnd.ev, tget_puts, h4]) ?_
    obtain ⟨b, o, e1, e2⟩ := quiet_idx (t := tput (tput (tput (tput (tput (tput (tput t (some (Pos.ofNat 8)) (.int .i64 (.ofNat i))) (some (Pos.ofNat 9)) x) (some (Pos.ofNat 10)) (.int .i64 (.ofNat l.length))) (some (Pos.ofNat 11)) (.bool true)) (some (Pos.ofNat 14)) v) (some (Pos.ofNat 15)) x) (some (Pos.ofNat 16)) (.int .i64 (.ofNat i))) (x := .t (Pos.ofNat 15)) (y := .t (Pos.ofNat 16)) (hx.keep hkeep hn) hlt (by simp [-Int.ofNat_eq_natCast, AOpnd.ev, tget_puts]) (by simp [-Int.ofNat_eq_natCast, AOpnd.ev, tget_puts])
    refine WO.go (v := .ptr b o) (H' := H1) rfl rfl (fun rec => by simp only [execA, write]; rw [e1]) ?_
    refine WO.go (v := l[i]) (H' := H1) rfl rfl (fun rec => by simp [-Int.ofNat_eq_natCast, execA, write, quiet, AOpnd.ev, tget_puts, e2]) ?_
    have hsi := scal_at i hlt hs
    refine WO.go (v := .sl H1.nx 0 1 1 0) (H' := (H1.new (.cells [l[i]] false false)).2) rfl rfl (fun rec => by simp only [execA, write]; rw [fill1 (v := l[i]) (by simp [-Int.ofNat_eq_natCast, AOpnd.ev, tget_puts]) hsi]; rfl) ?_
    obtain ⟨v', H', e3, r3, k3⟩ := append_rooms (x := .sl H1.nx 0 1 1 0) (new := [l[i]]) (by' := 8) (hroom.keep (keep_new (x := .cells [l[i]] false false))) src_new (scal_one hsi) (by simp; omega)
    refine WO.go (v := v') (H' := H') rfl rfl (fun rec => by simp [-Int.ofNat_eq_natCast, execA, write, AOpnd.ev, tget_puts, e3]) ?_
    refine WO.go (v := v') (H' := H') rfl rfl (fun rec => by simp [-Int.ofNat_eq_natCast, execA, write, quiet, AOpnd.ev, tget_puts]) (WO.nil ?_)
    simp only [inBlock]
    refine W.region ?_
    refine WO.go (v := .int .i64 (.ofNat i)) (H' := H') rfl rfl (fun rec => by simp [-Int.ofNat_eq_natCast, execA, write, quiet, AOpnd.ev, tget_puts, h4]) ?_
    refine WO.go (v := .int .i64 (.ofNat (i + 1))) (H' := H') rfl rfl (fun rec => by simp [-Int.ofNat_eq_natCast, execA, write, quiet, AOpnd.ev, tget_puts, add_one (show i + 1 ≤ 9223372036854775807 by omega)]) ?_
    refine WO.go (v := .int .i64 (.ofNat (i + 1))) (H' := H') rfl rfl (fun rec => by simp [-Int.ofNat_eq_natCast, execA, write, quiet, AOpnd.ev, tget_puts]) (WO.nil ?_)
    refine ih (i := i + 1) (v := v') (by omega) (by simp [-Int.ofNat_eq_natCast, tget_puts, h0]) (by simp [-Int.ofNat_eq_natCast, tget_puts]) (by simp [-Int.ofNat_eq_natCast, tget_puts]) ?_ (hkeep.trans ((keep_new.mono hkeep.nx).trans k3))
    rw [List.take_succ_eq_append_getElem hlt]
    exact r3
theorem ints_ok {n : Nat} {H : AHeap} {x : AVal} {l : List AVal} (hx : Reads n H x l) (hn : n ≤ H.nx.toNat) (hs : allScal l = true) (hl : l.length * 8 ≤ 140737488355328) :
    ∃ v H', CallS E 9 [x] H v H' ∧ Room H.nx.toNat H' v l l.length ∧ Keep H.nx.toNat H H' := by
  refine CallS.by (R := fun v H' => Room H.nx.toNat H' v l l.length ∧ Keep H.nx.toNat H H') (t0 := tput .l (some (Pos.ofNat 0)) x) (C.s _ rfl) rfl C.f9 rfl ?_
  refine W.seq (W.region ?_)
  refine WO.go rfl rfl (fun rec => rfl) (WO.nil ?_)
  refine W.seq (W.region ?_)
  refine WO.go (v := x) (H' := H) rfl rfl (fun rec => by simp [-Int.ofNat_eq_natCast, execA, write, quiet, AOpnd.ev, tget_puts]) ?_
  refine WO.go (v := .int .i64 (.ofNat l.length)) (H' := H) rfl rfl (fun rec => by simp only [execA, write]; rw [hx.len (by simp [-Int.ofNat_eq_natCast, AOpnd.ev, tget_puts])]) ?_
  refine WO.go (v := .sl H.nx 0 0 l.length 0) (H' := (H.new (.cells (repl [.int .i64 0] l.length) false false)).2) rfl rfl (fun rec => by simp only [execA]; rw [write_mkSlice (n := 0) (c := l.length) (q := .i64) (q' := .i64) rfl (by simp [-Int.ofNat_eq_natCast, AOpnd.ev, tget_puts]) (by omega) hl (by omega)]; rfl) ?_
  refine WO.go (v := .sl H.nx 0 0 l.length 0) rfl rfl (fun rec => by simp [-Int.ofNat_eq_natCast, execA, write, quiet, AOpnd.ev, tget_puts]; rfl) (WO.nil ?_)
  refine W.seq (W.seq (W.region ?_))
  refine WO.go (v := .int .i64 (.ofNat 0)) rfl rfl (fun rec => by simp [-Int.ofNat_eq_natCast, execA, write, quiet, AOpnd.ev]; rfl) (WO.nil ?_)
  refine W.block ?_
  refine W.mono (ints_loop hx hn hs hl l.length (i := 0) (v := .sl H.nx 0 0 l.length 0) (by omega) (by simp [-Int.ofNat_eq_natCast, tget_puts]) (by simp [-Int.ofNat_eq_natCast, tget_puts]) (by simp [-Int.ofNat_eq_natCast, tget_puts]) ⟨H.nx, repl [.int .i64 0] l.length, by simp, by simpa using get_new, by simp [repl1_length], Nat.le_refl _, by rw [nx_new]; omega⟩ keep_new) ?_
  rintro e ⟨t, ds⟩ H' ⟨rfl, hds, hroom, hkeep⟩
  have hds : ds = [] := hds
  subst hds
  simp only [inBlock, andThen]
  refine W.seq (W.region ?_)
  refine WO.go rfl rfl (fun rec => rfl) ?_
  refine WO.go rfl rfl (fun rec => rfl) (WO.nil (W.ret ?_))
  exact ⟨.inr rfl, rfl, tget t (Pos.ofNat 3), by simp [resultA, g9, AOpnd.ev, tget_puts], hroom, hkeep⟩
end
end Go.Am
end

section
namespace Go.Am
open Go

/-! Four bytes of a number. -/
def b4 (m : Nat) : List Nat := [m / 16777216 % 256, m / 65536 % 256, m / 256 % 256, m % 256]
theorem b4_lt (m : Nat) : ∀ u ∈ b4 m, u < 256 := by
  intro u hu
  simp only [b4, List.mem_cons, List.not_mem_nil, or_false] at hu
  rcases hu with rfl | rfl | rfl | rfl <;> exact Nat.mod_lt _ (by decide)
theorem cells_append : ∀ (us vs : List Nat), cellsOfBytes (us ++ vs) = cellsOfBytes us ++ cellsOfBytes vs
  | [], _ => rfl
  | u :: us, vs => by simp [cellsOfBytes, cells_append us vs]
theorem scal_cells : ∀ (us : List Nat), allScal (cellsOfBytes us) = true
  | [] => rfl
  | u :: us => by simp [cellsOfBytes, allScal, isScal, scal_cells us]
theorem shr24 (m : Nat) : binOpA .shr (.int .i64 (.ofNat m)) (.int .u64 24) = some (.int .i64 (.ofNat (m / 16777216))) := rfl
theorem shr16 (m : Nat) : binOpA .shr (.int .i64 (.ofNat m)) (.int .u64 16) = some (.int .i64 (.ofNat (m / 65536))) := rfl
theorem shr8 (m : Nat) : binOpA .shr (.int .i64 (.ofNat m)) (.int .u64 8) = some (.int .i64 (.ofNat (m / 256))) := rfl
theorem wrap_u8 (m : Nat) : wrapI .u8 (.ofNat m) = .ofNat (m % 256) := rfl
/-- The numbers of a list, as cells. -/
def icells (l : List Nat) : List AVal := l.map fun m => .int .i64 (.ofNat m)
theorem icells_length (l : List Nat) : (icells l).length = l.length := by simp [icells]
theorem scal_icells : ∀ (l : List Nat), allScal (icells l) = true
  | [] => rfl
  | u :: us => by simpa [icells, allScal, isScal] using scal_icells us
theorem icells_at {l : List Nat} {i : Nat} (hi : i < (icells l).length) : (icells l)[i] = .int .i64 (.ofNat (l[i]'(by simpa [icells] using hi))) := by simp [icells]
def all4 (l : List Nat) : List Nat := l.flatMap b4

/-- A buffer: behind appends, or with room for so many more. -/
def Buf (n rem : Nat) (H : AHeap) (v : AVal) (l : List AVal) : Prop := Grows n H v l ∨ ∃ cap, Room n H v l cap ∧ l.length + rem ≤ cap
theorem Buf.keep {n rem : Nat} {H H' : AHeap} {v : AVal} {l : List AVal} (h : Buf n rem H v l) (k : Keep H.nx.toNat H H') : Buf n rem H' v l := by
  rcases h with h | ⟨cap, h, hc⟩
  · exact .inl (h.keep k)
  · exact .inr ⟨cap, h.keep k, hc⟩
theorem Buf.reads {n rem : Nat} {H : AHeap} {v : AVal} {l : List AVal} (h : Buf n rem H v l) : Reads H.nx.toNat H v l := by
  rcases h with h | ⟨cap, h, hc⟩
  · exact h.reads
  · exact h.reads
theorem append_buf {n rem : Nat} {H : AHeap} {v x : AVal} {l new : List AVal} {by' : Nat} (h : Buf n (rem + new.length) H v l) (hx : srcCells H 1 x = some (new.length, new)) (hn : n ≤ H.nx.toNat) (h0 : 0 < new.length) (hs : allScal new = true)
    (hb : (l.length + new.length) * 2 * by' ≤ 281474976710656) : ∃ v' H', appendA H 1 by' v x = some (v', H') ∧ Buf n rem H' v' (l ++ new) ∧ Keep n H H' := by
  rcases h with h | ⟨cap, h, hc⟩
  · obtain ⟨v', H', e, g, k⟩ := append_grows h hx hn h0 hs hb
    exact ⟨v', H', e, .inl g, k⟩
  · obtain ⟨v', H', e, g, k⟩ := append_rooms (by' := by') h hx hs (by omega)
    exact ⟨v', H', e, .inr ⟨cap, g, by simp; omega⟩, k⟩

/-- The four bytes laid into a block and behind the buffer. -/
theorem fill4 {t : PT AVal} {a b c d : AOpnd} {m : Nat} (ha : a.ev t = .int .u8 (.ofNat (m / 16777216 % 256))) (hb : b.ev t = .int .u8 (.ofNat (m / 65536 % 256))) (hc : c.ev t = .int .u8 (.ofNat (m / 256 % 256))) (hd : d.ev t = .int .u8 (.ofNat (m % 256))) {z : AVal} :
    fillA [z, z, z, z] t [(0, 1, a), (1, 1, b), (2, 1, c), (3, 1, d)] = some (cellsOfBytes (b4 m)) := by
  simp only [fillA, ha, hb, hc, hd]
  rfl
theorem src4 {H : AHeap} {m : Nat} : srcCells (H.new (.cells (cellsOfBytes (b4 m)) false false)).2 1 (.sl H.nx 0 4 4 0) = some ((cellsOfBytes (b4 m)).length, cellsOfBytes (b4 m)) := src_new (l := cellsOfBytes (b4 m))

section
variable {E : Env} (C : CodeOk E)
include C
theorem four_ref {n : Nat} {H : AHeap} {v : AVal} {us : List Nat} (hv : Grows n H v (cellsOfBytes us)) (hn : n ≤ H.nx.toNat) (hus : us.length ≤ 1099511627776) (m : Nat) :
    ∃ v' H', CallS E 37 [v, .int .i64 (.ofNat m)] H v' H' ∧ Grows n H' v' (cellsOfBytes (us ++ b4 m)) ∧ Keep n H H' := by
  refine CallS.by (R := fun v' H' => Grows n H' v' (cellsOfBytes (us ++ b4 m)) ∧ Keep n H H') (t0 := tput (tput .l (some (Pos.ofNat 0)) v) (some (Pos.ofNat 1)) (.int .i64 (.ofNat m))) (C.s _ rfl) rfl C.f37 rfl ?_
  refine W.seq (W.region ?_)
  refine WO.go rfl rfl (fun rec => rfl) (WO.nil ?_)
  refine W.seq (W.region ?_)
  refine WO.go (v := v) (H' := H) rfl rfl (fun rec => by simp [-Int.ofNat_eq_natCast, execA, write, quiet, AOpnd.ev, tget_puts]) ?_
  refine WO.go (v := .int .i64 (.ofNat m)) (H' := H) rfl rfl (fun rec => by simp [-Int.ofNat_eq_natCast, execA, write, quiet, AOpnd.ev, tget_puts]) ?_
  refine WO.go (v := .int .i64 (.ofNat (m / 16777216))) (H' := H) rfl rfl (fun rec => by simp [-Int.ofNat_eq_natCast, execA, write, quiet, AOpnd.ev, tget_puts, shr24]) ?_
  refine WO.go (v := .int .u8 (.ofNat (m / 16777216 % 256))) (H' := H) rfl rfl (fun rec => by simp [-Int.ofNat_eq_natCast, execA, write, quiet, AOpnd.ev, tget_puts, wrap_u8]) ?_
  refine WO.go (v := .int .i64 (.ofNat m)) (H' := H) rfl rfl (fun rec => by simp [-Int.ofNat_eq_natCast, execA, write, quiet, AOpnd.ev, tget_puts]) ?_
  refine WO.go (v := .int .i64 (.ofNat (m / 65536))) (H' := H) rfl rfl (fun rec => by simp [-Int.ofNat_eq_natCast, execA, write, quiet, AOpnd.ev, tget_puts, shr16]) ?_
  refine WO.go (v := .int .u8 (.ofNat (m / 65536 % 256))) (H' := H) rfl rfl (fun rec => by simp [-Int.ofNat_eq_natCast, execA, write, quiet, AOpnd.ev, tget_puts, wrap_u8]) ?_
  refine WO.go (v := .int .i64 (.ofNat m)) (H' := H) rfl rfl (fun rec => by simp [-Int.ofNat_eq_natCast, execA, write, quiet, AOpnd.ev, tget_puts]) ?_
  refine WO.go (v := .int .i64 (.ofNat (m / 256))) (H' := H) rfl rfl (fun rec => by simp [-Int.ofNat_eq_natCast, execA, write, quiet, AOpnd.ev, tget_puts, shr8]) ?_
  refine WO.go (v := .int .u8 (.ofNat (m / 256 % 256))) (H' := H) rfl rfl (fun rec => by simp [-Int.ofNat_eq_natCast, execA, write, quiet, AOpnd.ev, tget_puts, wrap_u8]) ?_
  refine WO.go (v := .int .i64 (.ofNat m)) (H' := H) rfl rfl (fun rec => by simp [-Int.ofNat_eq_natCast, execA, write, quiet, AOpnd.ev, tget_puts]) ?_
  refine WO.go (v := .int .u8 (.ofNat (m % 256))) (H' := H) rfl rfl (fun rec => by simp [-Int.ofNat_eq_natCast, execA, write, quiet, AOpnd.ev, tget_puts, wrap_u8]) ?_
  refine WO.go (v := .sl H.nx 0 4 4 0) (H' := (H.new (.cells (cellsOfBytes (b4 m)) false false)).2) rfl rfl (fun rec => by simp only [execA, write]; rw [fill4 (m := m) (by simp [-Int.ofNat_eq_natCast, AOpnd.ev, tget_puts]) (by simp [-Int.ofNat_eq_natCast, AOpnd.ev, tget_puts]) (by simp [-Int.ofNat_eq_natCast, AOpnd.ev, tget_puts]) (by simp [-Int.ofNat_eq_natCast, AOpnd.ev, tget_puts])]; rfl) ?_
  obtain ⟨v', H', e3, r3, k3⟩ := append_grows (by' := 1) (hv.keep (keep_new (x := .cells (cellsOfBytes (b4 m)) false false))) src4 (Nat.le_trans hn keep_new.nx) (by simp [b4, cellsOfBytes]) (scal_cells _) (by rw [cells_length]; show (us.length + 4) * 2 * 1 ≤ _; omega)
  refine WO.go (v := v') (H' := H') rfl rfl (fun rec => by simp [-Int.ofNat_eq_natCast, execA, write, AOpnd.ev, tget_puts, e3]) ?_
  refine WO.go (v := v') (H' := H') rfl rfl (fun rec => by simp [-Int.ofNat_eq_natCast, execA, write, quiet, AOpnd.ev, tget_puts]) (WO.nil (W.ret ?_))
  exact ⟨.inr rfl, rfl, v', by simp [resultA, g37, AOpnd.ev, tget_puts], by rw [cells_append]; exact r3, (keep_new.mono hn).trans k3⟩

omit C in
theorem four_loop {n n' : Nat} {H : AHeap} {x : AVal} {l us : List Nat} (hx : Reads n' H x (icells l)) (hn' : n' ≤ n) (hn : n ≤ H.nx.toNat) (hl : l.length ≤ 1073741824) (hus : us.length ≤ 1073741824) (k : Nat) :
    ∀ {i : Nat} {t : PT AVal} {v : AVal} {H1 : AHeap} {ro : Option Pos}, i + k = l.length → tget t (Pos.ofNat 7) = x → tget t (Pos.ofNat 8) = .int .i64 (.ofNat l.length) → tget t (Pos.ofNat 9) = .int .i64 (.ofNat i) → tget t (Pos.ofNat 0) = v →
      Buf n (4 * k) H1 v (cellsOfBytes (us ++ all4 (l.take i))) → Keep n H H1 →
    W E (.loop g35l6) ro ⟨t, []⟩ H1 (fun e a H' => e = .exit 0 ∧ a.ds = [] ∧ Buf n 0 H' (tget a.t (Pos.ofNat 0)) (cellsOfBytes (us ++ all4 l)) ∧ Keep n H H') := by
  induction k with
  | zero =>
    intro i t v H1 ro hk h7 h8 h9 h0 hbuf hkeep
    have hi : i = l.length := by omega
    subst hi
    refine W.loop (W.seq (W.region ?_))
    refine WO.go (v := .bool false) (H' := H1) rfl rfl (fun rec => by simp [-Int.ofNat_eq_natCast, execA, write, quiet, AOpnd.ev, h8, h9, lss_f]) (WO.nil ?_)
    refine W.seq (W.cond_false (by simp [AOpnd.ev, tget_puts]) (W.exit ?_))
    exact ⟨rfl, rfl, by simpa [tget_puts, h0] using hbuf, hkeep⟩
  | succ k ih =>
    intro i t v H1 ro hk h7 h8 h9 h0 hbuf hkeep
    have hlt : i < l.length := by omega
    have hlt' : i < (icells l).length := by rw [icells_length]; exact hlt
    refine W.loop (W.seq (W.region ?_))
    refine WO.go (v := .bool true) (H' := H1) rfl rfl (fun rec => by simp [-Int.ofNat_eq_natCast, execA, write, quiet, AOpnd.ev, h8, h9, lss_t hlt]) (WO.nil ?_)
    refine W.seq (W.cond_true (by simp [AOpnd.ev, tget_puts]) (W.skip ?_))
    refine W.seq (W.block (W.seq (W.region ?_)))
    obtain ⟨b, o, e1, e2⟩ := quiet_idx (t := tput t (some (Pos.ofNat 10)) (.bool true)) (x := .t (Pos.ofNat 7)) (y := .t (Pos.ofNat 9)) (hx.keep hkeep hn') hlt' (by simp [-Int.ofNat_eq_natCast, AOpnd.ev, tget_puts, h7]) (by simp [-Int.ofNat_eq_natCast, AOpnd.ev, tget_puts, h9])
    rw [icells_at] at e2
    generalize hm : l[i] = m at e2
    refine WO.go (v := .ptr b o) (H' := H1) rfl rfl (fun rec => by simp only [execA, write]; rw [e1]) ?_
    refine WO.go (v := .int .i64 (.ofNat m)) (H' := H1) rfl rfl (fun rec => by simp [-Int.ofNat_eq_natCast, execA, write, quiet, AOpnd.ev, tget_puts, e2]) ?_
    refine WO.go (v := .int .i64 (.ofNat m)) (H' := H1) rfl rfl (fun rec => by simp [-Int.ofNat_eq_natCast, execA, write, quiet, AOpnd.ev, tget_puts]) (WO.nil ?_)
    refine W.region ?_
    refine WO.go (v := v) (H' := H1) rfl rfl (fun rec => by simp [-Int.ofNat_eq_natCast, execA, write, quiet, AOpnd.ev, tget_puts, h0]) ?_
    refine WO.go (v := .int .i64 (.ofNat m)) (H' := H1) rfl rfl (fun rec => by simp [-Int.ofNat_eq_natCast, execA, write, quiet, AOpnd.ev, tget_puts]) ?_
    refine WO.go (v := .int .i64 (.ofNat (m / 16777216))) (H' := H1) rfl rfl (fun rec => by simp [-Int.ofNat_eq_natCast, execA, write, quiet, AOpnd.ev, tget_puts, shr24]) ?_
    refine WO.go (v := .int .u8 (.ofNat (m / 16777216 % 256))) (H' := H1) rfl rfl (fun rec => by simp [-Int.ofNat_eq_natCast, execA, write, quiet, AOpnd.ev, tget_puts, wrap_u8]) ?_
    refine WO.go (v := .int .i64 (.ofNat m)) (H' := H1) rfl rfl (fun rec => by simp [-Int.ofNat_eq_natCast, execA, write, quiet, AOpnd.ev, tget_puts]) ?_
    refine WO.go (v := .int .i64 (.ofNat (m / 65536))) (H' := H1) rfl rfl (fun rec => by simp [-Int.ofNat_eq_natCast, execA, write, quiet, AOpnd.ev, tget_puts, shr16]) ?_
    refine WO.go (v := .int .u8 (.ofNat (m / 65536 % 256))) (H' := H1) rfl rfl (fun rec => by simp [-Int.ofNat_eq_natCast, execA, write, quiet, AOpnd.ev, tget_puts, wrap_u8]) ?_
    refine WO.go (v := .int .i64 (.ofNat m)) (H' := H1) rfl rfl (fun rec => by simp [-Int.ofNat_eq_natCast, execA, write, quiet, AOpnd.ev, tget_puts]) ?_
    refine WO.go (v := .int .i64 (.ofNat (m / 256))) (H' := H1) rfl rfl (fun rec => by simp [-Int.ofNat_eq_natCast, execA, write, quiet, AOpnd.ev, tget_puts, shr8]) ?_
    refine WO.go (v := .int .u8 (.ofNat (m / 256 % 256))) (H' := H1) rfl rfl (fun rec => by simp [-Int.ofNat_eq_natCast, execA, write, quiet, AOpnd.ev, tget_puts, wrap_u8]) ?_
    refine WO.go (v := .int .i64 (.ofNat m)) (H' := H1) rfl rfl (fun rec => by simp [-Int.ofNat_eq_natCast, execA, write, quiet, AOpnd.ev, tget_puts]) ?_
    refine WO.go (v := .int .u8 (.ofNat (m % 256))) (H' := H1) rfl rfl (fun rec => by simp [-Int.ofNat_eq_natCast, execA, write, quiet, AOpnd.ev, tget_puts, wrap_u8]) ?_
    refine WO.go (v := .sl H1.nx 0 4 4 0) (H' := (H1.new (.cells (cellsOfBytes (b4 m)) false false)).2) rfl rfl (fun rec => by simp only [execA, write]; rw [fill4 (m := m) (by simp [-Int.ofNat_eq_natCast, AOpnd.ev, tget_puts]) (by simp [-Int.ofNat_eq_natCast, AOpnd.ev, tget_puts]) (by simp [-Int.ofNat_eq_natCast, AOpnd.ev, tget_puts]) (by simp [-Int.ofNat_eq_natCast, AOpnd.ev, tget_puts])]; rfl) ?_
    have hlen : (us ++ all4 (l.take i)).length ≤ 8589934592 := by
      have : (all4 (l.take i)).length = 4 * i := by
        have h4 : ∀ q : List Nat, (all4 q).length = 4 * q.length := by
          intro q
          induction q with
          | nil => rfl
          | cons a q ihq => simp only [all4, List.flatMap_cons, List.length_append, List.length_cons] at ihq ⊢; rw [ihq]; simp [b4]; omega
        rw [h4, List.length_take]; omega
      rw [List.length_append, this]; omega
    obtain ⟨v', H', e3, r3, k3⟩ := append_buf (rem := 4 * k) (by' := 1) (hbuf.keep (keep_new (x := .cells (cellsOfBytes (b4 m)) false false))) src4 (Nat.le_trans (Nat.le_trans hn hkeep.nx) keep_new.nx) (by simp [b4, cellsOfBytes]) (scal_cells _) (by rw [cells_length]; show (_ + 4) * 2 * 1 ≤ _; omega)
    refine WO.go (v := v') (H' := H') rfl rfl (fun rec => by simp [-Int.ofNat_eq_natCast, execA, write, AOpnd.ev, tget_puts, e3]) ?_
    refine WO.go (v := v') (H' := H') rfl rfl (fun rec => by simp [-Int.ofNat_eq_natCast, execA, write, quiet, AOpnd.ev, tget_puts]) (WO.nil ?_)
    simp only [inBlock, andThen]
    refine W.region ?_
    refine WO.go (v := .int .i64 (.ofNat (i + 1))) (H' := H') rfl rfl (fun rec => by simp [-Int.ofNat_eq_natCast, execA, write, quiet, AOpnd.ev, tget_puts, h9, add_one (show i + 1 ≤ 9223372036854775807 by omega)]) ?_
    refine WO.go (v := .int .i64 (.ofNat (i + 1))) (H' := H') rfl rfl (fun rec => by simp [-Int.ofNat_eq_natCast, execA, write, quiet, AOpnd.ev, tget_puts]) (WO.nil ?_)
    refine ih (i := i + 1) (v := v') (by omega) (by simp [-Int.ofNat_eq_natCast, tget_puts, h7]) (by simp [-Int.ofNat_eq_natCast, tget_puts, h8]) (by simp [-Int.ofNat_eq_natCast, tget_puts]) (by simp [-Int.ofNat_eq_natCast, tget_puts]) ?_ (hkeep.trans ((keep_new.mono (Nat.le_trans hn hkeep.nx)).trans k3))
    have : all4 (l.take (i + 1)) = all4 (l.take i) ++ b4 m := by
      rw [List.take_succ_eq_append_getElem hlt, hm]
      simp [all4]
    rw [this, ← List.append_assoc, cells_append]
    exact r3

theorem four_ok {n n' : Nat} {H : AHeap} {v x : AVal} {l us : List Nat} (hx : Reads n' H x (icells l)) (hn' : n' ≤ n) (hn : n ≤ H.nx.toNat) (hl : l.length ≤ 1073741824) (hus : us.length ≤ 1073741824) (hv : Buf n (4 * l.length) H v (cellsOfBytes us)) :
    ∃ v' H', CallS E 35 [v, x] H v' H' ∧ Buf n 0 H' v' (cellsOfBytes (us ++ all4 l)) ∧ Keep n H H' := by
  refine CallS.by (R := fun v' H' => Buf n 0 H' v' (cellsOfBytes (us ++ all4 l)) ∧ Keep n H H') (t0 := tput (tput .l (some (Pos.ofNat 0)) v) (some (Pos.ofNat 1)) x) (C.s _ rfl) rfl C.f35 rfl ?_
  refine W.seq (W.region ?_)
  refine WO.go rfl rfl (fun rec => rfl) (WO.nil ?_)
  refine W.seq (W.seq (W.region ?_))
  refine WO.go (v := x) (H' := H) rfl rfl (fun rec => by simp [-Int.ofNat_eq_natCast, execA, write, quiet, AOpnd.ev, tget_puts]) ?_
  refine WO.go (v := .int .i64 (.ofNat l.length)) (H' := H) rfl rfl (fun rec => by simp only [execA, write]; rw [hx.len (by simp [AOpnd.ev, tget_puts]), icells_length]) ?_
  refine WO.go (v := .int .i64 (.ofNat 0)) (H' := H) rfl rfl (fun rec => rfl) (WO.nil ?_)
  refine W.block (W.mono (four_loop hx hn' hn hl hus l.length (i := 0) (v := v) (by omega) (by simp [tget_puts]) (by simp [tget_puts]) (by simp [tget_puts]) (by simp [tget_puts]) (by simpa [all4] using hv) (Keep.refl _ _)) ?_)
  rintro e ⟨t, ds⟩ H' ⟨rfl, hds, hroom, hkeep⟩
  have hds : ds = [] := hds
  subst hds
  simp only [inBlock, andThen]
  refine W.seq (W.region ?_)
  refine WO.go rfl rfl (fun rec => rfl) ?_
  refine WO.go rfl rfl (fun rec => rfl) (WO.nil (W.ret ?_))
  exact ⟨.inr rfl, rfl, tget t (Pos.ofNat 0), by simp [resultA, g35, AOpnd.ev, tget_puts], hroom, hkeep⟩
end
end Go.Am
end
