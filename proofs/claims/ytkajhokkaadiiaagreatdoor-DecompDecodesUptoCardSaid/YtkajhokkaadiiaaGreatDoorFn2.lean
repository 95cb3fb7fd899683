/- Part of the proof: AmF4, AmF5. -/
import Derived.Test.YtkajhokkaadiiaaGreatDoorFn1
set_option linter.unusedSimpArgs false
set_option linter.unusedVariables false
section
namespace Go.Am
open Go

/-- Whole numbers, as cells. -/
def zcells (l : List Int) : List AVal := l.map (.int .i64)
theorem zcells_length (l : List Int) : (zcells l).length = l.length := by simp [zcells]
theorem zcells_at {l : List Int} {i : Nat} (hi : i < (zcells l).length) : (zcells l)[i] = .int .i64 (l[i]'(by simpa [zcells] using hi)) := by simp [zcells]
theorem scal_zcells : ∀ (l : List Int), allScal (zcells l) = true
  | [] => rfl
  | u :: us => by simpa [zcells, allScal, isScal] using scal_zcells us
theorem eqI_self (n : Int) : eqI n n = true := by cases n <;> simp [eqI]
theorem eql_self (n : Int) : binOpA .eql (.int .i64 n) (.int .i64 n) = some (.bool true) := by
  show some (AVal.bool (eqI n n)) = _
  rw [eqI_self]
theorem neq_self (n : Int) : binOpA .neq (.int .i64 n) (.int .i64 n) = some (.bool false) := by
  show some (AVal.bool (!(eqI n n))) = _
  rw [eqI_self]; rfl
theorem mm_max (a b : Nat) : mmA true (.int .i64 (.ofNat a)) [.int .i64 (.ofNat b)] = some (.int .i64 (.ofNat (max a b))) := by
  show some (AVal.int .i64 (match Nat.blt a b with | true => .ofNat b | false => .ofNat a)) = _
  by_cases h : a < b
  · rw [blt_t h]; simp only; rw [Nat.max_eq_right (by omega)]
  · rw [blt_f (by omega)]; simp only; rw [Nat.max_eq_left (by omega)]
def gmax (l : List Nat) : Nat := l.foldl max 0
theorem gmax_take {l : List Nat} {i : Nat} (hi : i < l.length) : gmax (l.take (i + 1)) = max (gmax (l.take i)) l[i] := by
  unfold gmax
  rw [List.take_succ_eq_append_getElem hi, List.foldl_append]
  rfl

theorem Reads.at' {n : Nat} {H : AHeap} {v : AVal} {l : List AVal} (h : Reads n H v l) {i : Nat} (hi : i < l.length) : ∃ b o, hload H b o = some l[i] ∧ ∀ {t : PT AVal} {x y : AOpnd}, x.ev t = v → y.ev t = .int .i64 (.ofNat i) → quiet t H (.idxS 1 x y) = some (.ptr b o) := by
  obtain ⟨b, o, cap, sz, rfl, h'⟩ := h.idx hi
  refine ⟨b, o + i, h', fun hx hy => ?_⟩
  simp only [quiet, hx, hy, natOf, blt_t hi, off1]
theorem exec_idxS {E : Env} {rec : Rec} {t : PT AVal} {H : AHeap} {s : Nat} {x y : AOpnd} {v : AVal} (h : quiet t H (.idxS s x y) = some v) : execA E rec t H (.idxS s x y) = some (v, H) := by
  simp only [execA, write, h]

theorem lss_f1 {n : Nat} (h : 0 < n) : binOpA .lss (.int .i64 (.ofNat n)) (.int .i64 1) = some (.bool false) := lss_f (j := 1) h
theorem eql_0 {n : Nat} (h : 0 < n) : binOpA .eql (.int .i64 (.ofNat n)) (.int .i64 0) = some (.bool false) := by
  show some (AVal.bool (Nat.beq n 0)) = _
  rw [beq_f (by omega)]

section
variable {E : Env} (C : CodeOk E)
include C

theorem num_ok {H : AHeap} (v : AVal) : CallS E 15 [v] H v H := by
  suffices h : ∃ v' H', CallS E 15 [v] H v' H' ∧ v' = v ∧ H' = H by obtain ⟨v', H', h, rfl, rfl⟩ := h; exact h
  refine CallS.by (R := fun v' H' => v' = v ∧ H' = H) (t0 := tput .l (some (Pos.ofNat 0)) v) (C.s _ rfl) rfl C.f15 rfl ?_
  refine W.seq (W.region ?_)
  refine WO.go rfl rfl (fun rec => rfl) (WO.nil ?_)
  refine W.seq (W.region ?_)
  refine WO.go rfl rfl (fun rec => rfl) ?_
  refine WO.go rfl rfl (fun rec => rfl) (WO.nil (W.ret ?_))
  exact ⟨.inr rfl, rfl, v, by simp [resultA, g15, AOpnd.ev, tget_puts], rfl, rfl⟩

omit C in
theorem same_ints_loop {n : Nat} {H : AHeap} {x y : AVal} {l : List Int} (hx : Reads n H x (zcells l)) (hy : Reads n H y (zcells l)) (hl : l.length ≤ 4611686018427387904) (k : Nat) :
    ∀ {i : Nat} {t : PT AVal} {ro : Option Pos}, i + k = l.length → tget t (Pos.ofNat 0) = x → tget t (Pos.ofNat 1) = y → tget t (Pos.ofNat 5) = .int .i64 (.ofNat i) →
    W E (.loop g12l8) ro ⟨t, []⟩ H (fun e a H' => e = .exit 0 ∧ a.ds = [] ∧ H' = H) := by
  induction k with
  | zero =>
    intro i t ro hk h0 h1 h5
    have hi : i = l.length := by omega
    subst hi
    refine W.loop (W.seq (W.seq (W.region ?_)))
    refine WO.go rfl rfl (fun rec => rfl) ?_
    refine WO.go rfl rfl (fun rec => rfl) ?_
    refine WO.go (v := .int .i64 (.ofNat l.length)) (H' := H) rfl rfl (fun rec => by simp only [execA, write]; rw [hx.len (by simp [AOpnd.ev, tget_puts, h0]), zcells_length]) ?_
    refine WO.go (v := .bool false) (H' := H) rfl rfl (fun rec => by simp [-Int.ofNat_eq_natCast, execA, write, quiet, AOpnd.ev, tget_puts, h5, lss_f]) (WO.nil ?_)
    refine W.cond_false (by simp [AOpnd.ev, tget_puts]) (W.exit ?_)
    exact ⟨rfl, rfl, rfl⟩
  | succ k ih =>
    intro i t ro hk h0 h1 h5
    have hlt : i < l.length := by omega
    have hlt' : i < (zcells l).length := by rw [zcells_length]; exact hlt
    refine W.loop (W.seq (W.seq (W.region ?_)))
    refine WO.go rfl rfl (fun rec => rfl) ?_
    refine WO.go rfl rfl (fun rec => rfl) ?_
    refine WO.go (v := .int .i64 (.ofNat l.length)) (H' := H) rfl rfl (fun rec => by simp only [execA, write]; rw [hx.len (by simp [AOpnd.ev, tget_puts, h0]), zcells_length]) ?_
    refine WO.go (v := .bool true) (H' := H) rfl rfl (fun rec => by simp [-Int.ofNat_eq_natCast, execA, write, quiet, AOpnd.ev, tget_puts, h5, lss_t hlt]) (WO.nil ?_)
    refine W.cond_true (by simp [AOpnd.ev, tget_puts]) (W.skip ?_)
    refine W.seq (W.block (W.seq (W.draw ?_)))
    generalize ht : tput _ (some (Pos.ofNat 14)) (AVal.bool true) = t1
    have h0 : tget t1 (Pos.ofNat 0) = x := by rw [← ht]; simp [tget_puts, h0]
    have h1 : tget t1 (Pos.ofNat 1) = y := by rw [← ht]; simp [tget_puts, h1]
    have h5 : tget t1 (Pos.ofNat 5) = .int .i64 (.ofNat i) := by rw [← ht]; simp [tget_puts, h5]
    clear ht
    obtain ⟨b, o, e1, e2⟩ := quiet_idx (t := tput (tput t1 (some (Pos.ofNat 17)) x) (some (Pos.ofNat 18)) (.int .i64 (.ofNat i))) (x := .t (Pos.ofNat 17)) (y := .t (Pos.ofNat 18)) hx hlt' (by simp [-Int.ofNat_eq_natCast, AOpnd.ev, tget_puts]) (by simp [-Int.ofNat_eq_natCast, AOpnd.ev, tget_puts])
    rw [zcells_at] at e2
    generalize hm : l[i] = m at e2
    refine WD.quiet (v := x) rfl (by simp [quiet, AOpnd.ev, h0]) ?_
    refine WD.quiet (v := .int .i64 (.ofNat i)) rfl (by simp [-Int.ofNat_eq_natCast, quiet, AOpnd.ev, tget_puts, h5]) ?_
    refine WD.quiet (v := .ptr b o) rfl e1 ?_
    refine WD.quiet (v := .int .i64 m) rfl (by simp [quiet, AOpnd.ev, tget_puts, e2]) ?_
    refine WD.quiet (v := y) rfl (by simp [quiet, AOpnd.ev, tget_puts, h1]) ?_
    refine WD.quiet (v := .int .i64 (.ofNat i)) rfl (by simp [-Int.ofNat_eq_natCast, quiet, AOpnd.ev, tget_puts, h5]) ?_
    obtain ⟨b', o', e3, e4⟩ := quiet_idx (t := tput (tput (tput (tput (tput (tput t1 (some (Pos.ofNat 17)) x) (some (Pos.ofNat 18)) (.int .i64 (.ofNat i))) (some (Pos.ofNat 19)) (.ptr b o)) (some (Pos.ofNat 20)) (.int .i64 m)) (some (Pos.ofNat 21)) y) (some (Pos.ofNat 22)) (.int .i64 (.ofNat i))) (x := .t (Pos.ofNat 21)) (y := .t (Pos.ofNat 22)) hy hlt' (by simp [-Int.ofNat_eq_natCast, AOpnd.ev, tget_puts]) (by simp [-Int.ofNat_eq_natCast, AOpnd.ev, tget_puts])
    rw [zcells_at, hm] at e4
    refine WD.quiet (v := .ptr b' o') rfl e3 ?_
    refine WD.quiet (v := .int .i64 m) rfl (by simp [quiet, AOpnd.ev, tget_puts, e4]) ?_
    refine WD.quiet (v := .bool true) rfl (by simp [quiet, AOpnd.ev, tget_puts, eql_self]) ?_
    refine WD.quiet (v := .bool false) rfl (by simp [quiet, AOpnd.ev, tget_puts]) (WD.nil ?_)
    refine W.cond_false (by simp [AOpnd.ev, tget_puts]) (W.skip ?_)
    simp only [inBlock, andThen]
    refine W.region ?_
    refine WO.go rfl rfl (fun rec => rfl) ?_
    refine WO.go (v := .int .i64 (.ofNat (i + 1))) (H' := H) rfl rfl (fun rec => by simp [-Int.ofNat_eq_natCast, execA, write, quiet, AOpnd.ev, tget_puts, h5, add_one (show i + 1 ≤ 9223372036854775807 by omega)]) ?_
    refine WO.go (v := .int .i64 (.ofNat (i + 1))) (H' := H) rfl rfl (fun rec => by simp [-Int.ofNat_eq_natCast, execA, write, quiet, AOpnd.ev, tget_puts]) (WO.nil ?_)
    exact ih (i := i + 1) (by omega) (by simp [tget_puts, h0]) (by simp [tget_puts, h1]) (by simp [tget_puts])

theorem same_ints {n : Nat} {H : AHeap} {x y : AVal} {l : List Int} (hx : Reads n H x (zcells l)) (hy : Reads n H y (zcells l)) (hl : l.length ≤ 4611686018427387904) : CallS E 12 [x, y] H (.bool true) H := by
  suffices h : ∃ v' H', CallS E 12 [x, y] H v' H' ∧ v' = .bool true ∧ H' = H by obtain ⟨v', H', h, rfl, rfl⟩ := h; exact h
  refine CallS.by (R := fun v' H' => v' = .bool true ∧ H' = H) (t0 := tput (tput .l (some (Pos.ofNat 0)) x) (some (Pos.ofNat 1)) y) (C.s _ rfl) rfl C.f12 rfl ?_
  refine W.seq (W.region ?_)
  refine WO.go rfl rfl (fun rec => rfl) (WO.nil ?_)
  refine W.seq (W.seq (W.region ?_))
  refine WO.go rfl rfl (fun rec => rfl) ?_
  refine WO.go (v := .int .i64 (.ofNat l.length)) (H' := H) rfl rfl (fun rec => by simp only [execA, write]; rw [hx.len (by simp [AOpnd.ev, tget_puts]), zcells_length]) ?_
  refine WO.go rfl rfl (fun rec => rfl) ?_
  refine WO.go (v := .int .i64 (.ofNat l.length)) (H' := H) rfl rfl (fun rec => by simp only [execA, write]; rw [hy.len (by simp [AOpnd.ev, tget_puts]), zcells_length]) ?_
  refine WO.go (v := .bool false) (H' := H) rfl rfl (fun rec => by simp [-Int.ofNat_eq_natCast, execA, write, quiet, AOpnd.ev, tget_puts, neq_self]) (WO.nil ?_)
  refine W.cond_false (by simp [AOpnd.ev, tget_puts]) (W.skip ?_)
  refine W.seq (W.seq (W.region ?_))
  refine WO.go (v := .int .i64 (.ofNat 0)) rfl rfl (fun rec => rfl) (WO.nil ?_)
  refine W.block (W.mono (same_ints_loop hx hy hl l.length (i := 0) (by omega) (by simp [AOpnd.ev, tget_puts]) (by simp [AOpnd.ev, tget_puts]) (by simp [tget_puts])) ?_)
  rintro e ⟨t, ds⟩ H' ⟨rfl, hds, rfl⟩
  have hds : ds = [] := hds
  subst hds
  simp only [inBlock, andThen]
  refine W.seq (W.region ?_)
  refine WO.go rfl rfl (fun rec => rfl) (WO.nil (W.ret ?_))
  exact ⟨.inr rfl, rfl, .bool true, by simp [resultA, g12, AOpnd.ev, tget_puts], rfl, rfl⟩

omit C in
theorem ref_greatest_loop {n : Nat} {H : AHeap} {x : AVal} {l : List Nat} (hx : Reads n H x (icells l)) (hl : l.length ≤ 4611686018427387904) (k : Nat) :
    ∀ {i : Nat} {t : PT AVal} {ro : Option Pos}, i + k = l.length → tget t (Pos.ofNat 0) = x → tget t (Pos.ofNat 3) = .int .i64 (.ofNat (gmax (l.take i))) → tget t (Pos.ofNat 4) = .int .i64 (.ofNat i) →
    W E (.loop g38l6) ro ⟨t, []⟩ H (fun e a H' => e = .exit 0 ∧ a.ds = [] ∧ H' = H ∧ tget a.t (Pos.ofNat 3) = .int .i64 (.ofNat (gmax l))) := by
  induction k with
  | zero =>
    intro i t ro hk h0 h3 h4
    have hi : i = l.length := by omega
    subst hi
    refine W.loop (W.seq (W.seq (W.region ?_)))
    refine WO.go rfl rfl (fun rec => rfl) ?_
    refine WO.go rfl rfl (fun rec => rfl) ?_
    refine WO.go (v := .int .i64 (.ofNat l.length)) (H' := H) rfl rfl (fun rec => by simp only [execA, write]; rw [hx.len (by simp [AOpnd.ev, tget_puts, h0]), icells_length]) ?_
    refine WO.go (v := .bool false) (H' := H) rfl rfl (fun rec => by simp [-Int.ofNat_eq_natCast, execA, write, quiet, AOpnd.ev, tget_puts, h4, lss_f]) (WO.nil ?_)
    refine W.cond_false (by simp [AOpnd.ev, tget_puts]) (W.exit ?_)
    exact ⟨rfl, rfl, rfl, by simpa [-Int.ofNat_eq_natCast, tget_puts] using h3⟩
  | succ k ih =>
    intro i t ro hk h0 h3 h4
    have hlt : i < l.length := by omega
    have hlt' : i < (icells l).length := by rw [icells_length]; exact hlt
    refine W.loop (W.seq (W.seq (W.region ?_)))
    refine WO.go rfl rfl (fun rec => rfl) ?_
    refine WO.go rfl rfl (fun rec => rfl) ?_
    refine WO.go (v := .int .i64 (.ofNat l.length)) (H' := H) rfl rfl (fun rec => by simp only [execA, write]; rw [hx.len (by simp [AOpnd.ev, tget_puts, h0]), icells_length]) ?_
    refine WO.go (v := .bool true) (H' := H) rfl rfl (fun rec => by simp [-Int.ofNat_eq_natCast, execA, write, quiet, AOpnd.ev, tget_puts, h4, lss_t hlt]) (WO.nil ?_)
    refine W.cond_true (by simp [AOpnd.ev, tget_puts]) (W.skip ?_)
    refine W.seq (W.block (W.region ?_))
    generalize ht : tput _ (some (Pos.ofNat 8)) (AVal.bool true) = t1
    have h0 : tget t1 (Pos.ofNat 0) = x := by rw [← ht]; simp [tget_puts, h0]
    have h3 : tget t1 (Pos.ofNat 3) = .int .i64 (.ofNat (gmax (l.take i))) := by rw [← ht]; simp [tget_puts, h3]
    have h4 : tget t1 (Pos.ofNat 4) = .int .i64 (.ofNat i) := by rw [← ht]; simp [tget_puts, h4]
    clear ht
    refine WO.go (v := .int .i64 (.ofNat (gmax (l.take i)))) (H' := H) rfl rfl (fun rec => by simp [-Int.ofNat_eq_natCast, execA, write, quiet, AOpnd.ev, h3]) ?_
    refine WO.go (v := x) (H' := H) rfl rfl (fun rec => by simp [-Int.ofNat_eq_natCast, execA, write, quiet, AOpnd.ev, tget_puts, h0]) ?_
    refine WO.go (v := .int .i64 (.ofNat i)) (H' := H) rfl rfl (fun rec => by simp [-Int.ofNat_eq_natCast, execA, write, quiet, AOpnd.ev, tget_puts, h4]) ?_
    obtain ⟨b, o, e1, e2⟩ := quiet_idx (t := tput (tput (tput t1 (some (Pos.ofNat 11)) (.int .i64 (.ofNat (gmax (l.take i))))) (some (Pos.ofNat 12)) x) (some (Pos.ofNat 13)) (.int .i64 (.ofNat i))) (x := .t (Pos.ofNat 12)) (y := .t (Pos.ofNat 13)) hx hlt' (by simp [-Int.ofNat_eq_natCast, AOpnd.ev, tget_puts]) (by simp [-Int.ofNat_eq_natCast, AOpnd.ev, tget_puts])
    rw [icells_at] at e2
    refine WO.go (v := .ptr b o) (H' := H) rfl rfl (fun rec => by simp only [execA, write]; rw [e1]) ?_
    refine WO.go (v := .int .i64 (.ofNat l[i])) (H' := H) rfl rfl (fun rec => by simp [-Int.ofNat_eq_natCast, execA, write, quiet, AOpnd.ev, tget_puts, e2]) ?_
    refine WO.go (v := .int .i64 (.ofNat (gmax (l.take (i + 1))))) (H' := H) rfl rfl (fun rec => by rw [gmax_take hlt]; simp [-Int.ofNat_eq_natCast, execA, write, quiet, evs, AOpnd.ev, tget_puts, mm_max]) ?_
    refine WO.go (v := .int .i64 (.ofNat (gmax (l.take (i + 1))))) (H' := H) rfl rfl (fun rec => by simp [-Int.ofNat_eq_natCast, execA, write, quiet, AOpnd.ev, tget_puts]) (WO.nil ?_)
    simp only [inBlock]
    refine W.region ?_
    refine WO.go rfl rfl (fun rec => rfl) ?_
    refine WO.go (v := .int .i64 (.ofNat (i + 1))) (H' := H) rfl rfl (fun rec => by simp [-Int.ofNat_eq_natCast, execA, write, quiet, AOpnd.ev, tget_puts, h4, add_one (show i + 1 ≤ 9223372036854775807 by omega)]) ?_
    refine WO.go (v := .int .i64 (.ofNat (i + 1))) (H' := H) rfl rfl (fun rec => by simp [-Int.ofNat_eq_natCast, execA, write, quiet, AOpnd.ev, tget_puts]) (WO.nil ?_)
    exact ih (i := i + 1) (by omega) (by simp [tget_puts, h0]) (by simp [tget_puts]) (by simp [tget_puts])

theorem ref_greatest {n : Nat} {H : AHeap} {x : AVal} {l : List Nat} (hx : Reads n H x (icells l)) (hl : l.length ≤ 4611686018427387904) : CallS E 38 [x] H (.int .i64 (.ofNat (gmax l))) H := by
  suffices h : ∃ v' H', CallS E 38 [x] H v' H' ∧ v' = .int .i64 (.ofNat (gmax l)) ∧ H' = H by obtain ⟨v', H', h, rfl, rfl⟩ := h; exact h
  refine CallS.by (R := fun v' H' => v' = .int .i64 (.ofNat (gmax l)) ∧ H' = H) (t0 := tput .l (some (Pos.ofNat 0)) x) (C.s _ rfl) rfl C.f38 rfl ?_
  refine W.seq (W.region ?_)
  refine WO.go rfl rfl (fun rec => rfl) (WO.nil ?_)
  refine W.seq (W.region ?_)
  refine WO.go rfl rfl (fun rec => rfl) (WO.nil ?_)
  refine W.seq (W.seq (W.region ?_))
  refine WO.go (v := .int .i64 (.ofNat 0)) rfl rfl (fun rec => rfl) (WO.nil ?_)
  refine W.block (W.mono (ref_greatest_loop hx hl l.length (i := 0) (by omega) (by simp [AOpnd.ev, tget_puts]) (by simp [AOpnd.ev, tget_puts, gmax]) (by simp [tget_puts])) ?_)
  rintro e ⟨t, ds⟩ H' ⟨rfl, hds, rfl, h3⟩
  have hds : ds = [] := hds
  subst hds
  have h3 : tget t (Pos.ofNat 3) = .int .i64 (.ofNat (gmax l)) := h3
  simp only [inBlock, andThen]
  refine W.seq (W.region ?_)
  refine WO.go rfl rfl (fun rec => rfl) ?_
  refine WO.go rfl rfl (fun rec => rfl) (WO.nil (W.ret ?_))
  exact ⟨.inr rfl, rfl, .int .i64 (.ofNat (gmax l)), by simp [-Int.ofNat_eq_natCast, resultA, g38, AOpnd.ev, tget_puts, h3], rfl, rfl⟩

omit C in
theorem max_loop {n : Nat} {H : AHeap} {x : AVal} {l : List Nat} (hx : Reads n H x (icells l)) (hl : l.length ≤ 4611686018427387904) (k : Nat) :
    ∀ {i : Nat} {t : PT AVal} {ro : Option Pos}, i + k = l.length → tget t (Pos.ofNat 0) = x → tget t (Pos.ofNat 3) = .int .i64 (.ofNat (gmax (l.take i))) → tget t (Pos.ofNat 4) = .int .i64 (.ofNat i) →
    W E (.loop g69l8) ro ⟨t, []⟩ H (fun e a H' => e = .exit 0 ∧ a.ds = [] ∧ H' = H ∧ tget a.t (Pos.ofNat 3) = .int .i64 (.ofNat (gmax l))) := by
  induction k with
  | zero =>
    intro i t ro hk h0 h3 h4
    have hi : i = l.length := by omega
    subst hi
    refine W.loop (W.seq (W.seq (W.region ?_)))
    refine WO.go rfl rfl (fun rec => rfl) ?_
    refine WO.go rfl rfl (fun rec => rfl) ?_
    refine WO.go (v := .int .i64 (.ofNat l.length)) (H' := H) rfl rfl (fun rec => by simp only [execA, write]; rw [hx.len (by simp [AOpnd.ev, tget_puts, h0]), icells_length]) ?_
    refine WO.go (v := .bool false) (H' := H) rfl rfl (fun rec => by simp [-Int.ofNat_eq_natCast, execA, write, quiet, AOpnd.ev, tget_puts, h4, lss_f]) (WO.nil ?_)
    refine W.cond_false (by simp [AOpnd.ev, tget_puts]) (W.exit ?_)
    exact ⟨rfl, rfl, rfl, by simpa [-Int.ofNat_eq_natCast, tget_puts] using h3⟩
  | succ k ih =>
    intro i t ro hk h0 h3 h4
    have hlt : i < l.length := by omega
    have hlt' : i < (icells l).length := by rw [icells_length]; exact hlt
    refine W.loop (W.seq (W.seq (W.region ?_)))
    refine WO.go rfl rfl (fun rec => rfl) ?_
    refine WO.go rfl rfl (fun rec => rfl) ?_
    refine WO.go (v := .int .i64 (.ofNat l.length)) (H' := H) rfl rfl (fun rec => by simp only [execA, write]; rw [hx.len (by simp [AOpnd.ev, tget_puts, h0]), icells_length]) ?_
    refine WO.go (v := .bool true) (H' := H) rfl rfl (fun rec => by simp [-Int.ofNat_eq_natCast, execA, write, quiet, AOpnd.ev, tget_puts, h4, lss_t hlt]) (WO.nil ?_)
    refine W.cond_true (by simp [AOpnd.ev, tget_puts]) (W.skip ?_)
    refine W.seq (W.block (W.region ?_))
    generalize ht : tput _ (some (Pos.ofNat 15)) (AVal.bool true) = t1
    have h0 : tget t1 (Pos.ofNat 0) = x := by rw [← ht]; simp [tget_puts, h0]
    have h3 : tget t1 (Pos.ofNat 3) = .int .i64 (.ofNat (gmax (l.take i))) := by rw [← ht]; simp [tget_puts, h3]
    have h4 : tget t1 (Pos.ofNat 4) = .int .i64 (.ofNat i) := by rw [← ht]; simp [tget_puts, h4]
    clear ht
    refine WO.go (v := .int .i64 (.ofNat (gmax (l.take i)))) (H' := H) rfl rfl (fun rec => by simp [-Int.ofNat_eq_natCast, execA, write, quiet, AOpnd.ev, h3]) ?_
    refine WO.go (v := x) (H' := H) rfl rfl (fun rec => by simp [-Int.ofNat_eq_natCast, execA, write, quiet, AOpnd.ev, tget_puts, h0]) ?_
    refine WO.go (v := .int .i64 (.ofNat i)) (H' := H) rfl rfl (fun rec => by simp [-Int.ofNat_eq_natCast, execA, write, quiet, AOpnd.ev, tget_puts, h4]) ?_
    obtain ⟨b, o, e1, e2⟩ := quiet_idx (t := tput (tput (tput t1 (some (Pos.ofNat 18)) (.int .i64 (.ofNat (gmax (l.take i))))) (some (Pos.ofNat 19)) x) (some (Pos.ofNat 20)) (.int .i64 (.ofNat i))) (x := .t (Pos.ofNat 19)) (y := .t (Pos.ofNat 20)) hx hlt' (by simp [-Int.ofNat_eq_natCast, AOpnd.ev, tget_puts]) (by simp [-Int.ofNat_eq_natCast, AOpnd.ev, tget_puts])
    rw [icells_at] at e2
    refine WO.go (v := .ptr b o) (H' := H) rfl rfl (fun rec => by simp only [execA, write]; rw [e1]) ?_
    refine WO.go (v := .int .i64 (.ofNat l[i])) (H' := H) rfl rfl (fun rec => by simp [-Int.ofNat_eq_natCast, execA, write, quiet, AOpnd.ev, tget_puts, e2]) ?_
    refine WO.go (v := .int .i64 (.ofNat (gmax (l.take (i + 1))))) (H' := H) rfl rfl (fun rec => by rw [gmax_take hlt]; simp [-Int.ofNat_eq_natCast, execA, write, quiet, evs, AOpnd.ev, tget_puts, mm_max]) ?_
    refine WO.go (v := .int .i64 (.ofNat (gmax (l.take (i + 1))))) (H' := H) rfl rfl (fun rec => by simp [-Int.ofNat_eq_natCast, execA, write, quiet, AOpnd.ev, tget_puts]) (WO.nil ?_)
    simp only [inBlock]
    refine W.region ?_
    refine WO.go rfl rfl (fun rec => rfl) ?_
    refine WO.go (v := .int .i64 (.ofNat (i + 1))) (H' := H) rfl rfl (fun rec => by simp [-Int.ofNat_eq_natCast, execA, write, quiet, AOpnd.ev, tget_puts, h4, add_one (show i + 1 ≤ 9223372036854775807 by omega)]) ?_
    refine WO.go (v := .int .i64 (.ofNat (i + 1))) (H' := H) rfl rfl (fun rec => by simp [-Int.ofNat_eq_natCast, execA, write, quiet, AOpnd.ev, tget_puts]) (WO.nil ?_)
    exact ih (i := i + 1) (by omega) (by simp [tget_puts, h0]) (by simp [tget_puts]) (by simp [tget_puts])

theorem max_ok {n : Nat} {H : AHeap} {x : AVal} {l : List Nat} (hx : Reads n H x (icells l)) (h0 : 0 < l.length) (hl : l.length ≤ 4611686018427387904) : CallS E 69 [x] H (.int .i64 (.ofNat (gmax l))) H := by
  suffices h : ∃ v' H', CallS E 69 [x] H v' H' ∧ v' = .int .i64 (.ofNat (gmax l)) ∧ H' = H by obtain ⟨v', H', h, rfl, rfl⟩ := h; exact h
  refine CallS.by (R := fun v' H' => v' = .int .i64 (.ofNat (gmax l)) ∧ H' = H) (t0 := tput .l (some (Pos.ofNat 0)) x) (C.s _ rfl) rfl C.f69 rfl ?_
  have hlt' : 0 < (icells l).length := by rw [icells_length]; exact h0
  refine W.seq (W.region ?_)
  refine WO.go rfl rfl (fun rec => rfl) (WO.nil ?_)
  refine W.seq (W.seq (W.region ?_))
  refine WO.go rfl rfl (fun rec => rfl) ?_
  refine WO.go (v := .int .i64 (.ofNat l.length)) (H' := H) rfl rfl (fun rec => by simp only [execA, write]; rw [hx.len (by simp [AOpnd.ev, tget_puts]), icells_length]) ?_
  refine WO.go (v := .bool false) (H' := H) rfl rfl (fun rec => by simp [-Int.ofNat_eq_natCast, execA, write, quiet, AOpnd.ev, tget_puts, lss_f1 h0]) (WO.nil ?_)
  refine W.cond_false (by simp [AOpnd.ev, tget_puts]) (W.skip ?_)
  refine W.seq (W.region ?_)
  refine WO.go rfl rfl (fun rec => rfl) ?_
  obtain ⟨b, o, e2, e1⟩ := hx.at' hlt'
  rw [icells_at] at e2
  refine WO.go (v := .ptr b o) (H' := H) rfl rfl (fun rec => exec_idxS (e1 (by simp [AOpnd.ev, tget_puts]) rfl)) ?_
  refine WO.go (v := .int .i64 (.ofNat l[0])) (H' := H) rfl rfl (fun rec => by simp [-Int.ofNat_eq_natCast, execA, write, quiet, AOpnd.ev, tget_puts, e2]) ?_
  refine WO.go (v := .int .i64 (.ofNat l[0])) (H' := H) rfl rfl (fun rec => by simp [-Int.ofNat_eq_natCast, execA, write, quiet, AOpnd.ev, tget_puts]) (WO.nil ?_)
  refine W.seq (W.seq (W.region ?_))
  refine WO.go (v := .int .i64 (.ofNat 1)) rfl rfl (fun rec => rfl) (WO.nil ?_)
  have hg : gmax (l.take 1) = l[0] := by
    have := gmax_take (l := l) (i := 0) h0
    simpa [gmax] using this
  refine W.block (W.mono (max_loop hx hl (l.length - 1) (i := 1) (by omega) (by simp [AOpnd.ev, tget_puts]) (by rw [hg]; simp [-Int.ofNat_eq_natCast, AOpnd.ev, tget_puts]) (by simp [tget_puts])) ?_)
  rintro e ⟨t, ds⟩ H' ⟨rfl, hds, rfl, h3⟩
  have hds : ds = [] := hds
  subst hds
  have h3 : tget t (Pos.ofNat 3) = .int .i64 (.ofNat (gmax l)) := h3
  simp only [inBlock, andThen]
  refine W.seq (W.region ?_)
  refine WO.go rfl rfl (fun rec => rfl) ?_
  refine WO.go rfl rfl (fun rec => rfl) (WO.nil (W.ret ?_))
  exact ⟨.inr rfl, rfl, .int .i64 (.ofNat (gmax l)), by simp [-Int.ofNat_eq_natCast, resultA, g69, AOpnd.ev, tget_puts, h3], rfl, rfl⟩

theorem greatest_ok {n : Nat} {H : AHeap} {x : AVal} {l : List Nat} (hx : Reads n H x (icells l)) (hl : l.length ≤ 4611686018427387904) : CallS E 36 [x] H (.int .i64 (.ofNat (gmax l))) H := by
  suffices h : ∃ v' H', CallS E 36 [x] H v' H' ∧ v' = .int .i64 (.ofNat (gmax l)) ∧ H' = H by obtain ⟨v', H', h, rfl, rfl⟩ := h; exact h
  refine CallS.by (R := fun v' H' => v' = .int .i64 (.ofNat (gmax l)) ∧ H' = H) (t0 := tput .l (some (Pos.ofNat 0)) x) (C.s _ rfl) rfl C.f36 rfl ?_
  refine W.seq (W.region ?_)
  refine WO.go rfl rfl (fun rec => rfl) (WO.nil ?_)
  refine W.seq (W.seq (W.region ?_))
  refine WO.go rfl rfl (fun rec => rfl) ?_
  refine WO.go (v := .int .i64 (.ofNat l.length)) (H' := H) rfl rfl (fun rec => by simp only [execA, write]; rw [hx.len (by simp [AOpnd.ev, tget_puts]), icells_length]) ?_
  by_cases h0 : l = []
  · subst h0
    refine WO.go (v := .bool true) (H' := H) rfl rfl (fun rec => by simp [-Int.ofNat_eq_natCast, execA, write, quiet, AOpnd.ev, tget_puts]; rfl) (WO.nil ?_)
    refine W.cond_true (by simp [AOpnd.ev, tget_puts]) (W.seq (W.region ?_))
    refine WO.go rfl rfl (fun rec => rfl) (WO.nil (W.ret ?_))
    exact ⟨.inr rfl, rfl, .int .i64 (.ofNat (gmax [])), by simp [-Int.ofNat_eq_natCast, resultA, g36, AOpnd.ev, tget_puts, gmax], rfl, rfl⟩
  · have h0 : 0 < l.length := List.length_pos_iff.2 h0
    refine WO.go (v := .bool false) (H' := H) rfl rfl (fun rec => by simp [-Int.ofNat_eq_natCast, execA, write, quiet, AOpnd.ev, tget_puts, eql_0 h0]) (WO.nil ?_)
    refine W.cond_false (by simp [AOpnd.ev, tget_puts]) (W.skip ?_)
    refine W.seq (W.region ?_)
    refine WO.go (v := x) (H' := H) rfl rfl (fun rec => by simp [-Int.ofNat_eq_natCast, execA, write, quiet, AOpnd.ev, tget_puts]) ?_
    refine WO.call rfl (by simp only [evs, AOpnd.ev]; exact max_ok C hx h0 hl) ?_
    refine WO.go rfl rfl (fun rec => rfl) (WO.nil (W.ret ?_))
    exact ⟨.inr rfl, rfl, .int .i64 (.ofNat (gmax l)), by simp [-Int.ofNat_eq_natCast, resultA, g36, AOpnd.ev, tget_puts], rfl, rfl⟩
end
end Go.Am
end

section
namespace Go.Am
open Go

theorem want_yes {t : PT AVal} {p : Pos} {w : Bool} (h : tget t p = .bool w) : wantedA t (some (p, w)) = some true := by
  unfold tget at h
  split at h
  · rename_i v hv
    subst h
    simp [wantedA, hv]
  · cases h
theorem want_no {t : PT AVal} {p : Pos} {w : Bool} (h : tget t p = .bool (!w)) : wantedA t (some (p, w)) = some false := by
  unfold tget at h
  split at h
  · rename_i v hv
    subst h
    cases w <;> simp [wantedA, hv]
  · cases h
theorem ltI_dec (a b : Int) : ltI a b = decide (a < b) := by
  cases a with
  | ofNat a => cases b with
    | ofNat b =>
      show Nat.blt a b = _
      by_cases h : a < b
      · rw [blt_t h]; simp; omega
      · rw [blt_f (by omega)]; simp; omega
    | negSucc b => show false = _; simp; omega
  | negSucc a => cases b with
    | ofNat b => show true = _; simp; omega
    | negSucc b =>
      show Nat.blt b a = _
      by_cases h : b < a
      · rw [blt_t h]; simp; omega
      · rw [blt_f (by omega)]; simp; omega
theorem z_lss (a b : Int) : binOpA .lss (.int .i64 a) (.int .i64 b) = some (.bool (decide (a < b))) := by
  show some (AVal.bool (ltI a b)) = _
  rw [ltI_dec]
theorem z_gtr (a b : Int) : binOpA .gtr (.int .i64 a) (.int .i64 b) = some (.bool (decide (b < a))) := by
  show some (AVal.bool (ltI b a)) = _
  rw [ltI_dec]
theorem z_geq (a b : Int) : binOpA .geq (.int .i64 a) (.int .i64 b) = some (.bool (decide (b ≤ a))) := by
  show some (AVal.bool (!(ltI a b))) = _
  rw [ltI_dec]
  by_cases h : a < b
  · simp [h]
  · simp [h]; omega

/-- No slice of that block. -/
def OffB (v : AVal) (p : Pos) : Prop := ∀ o len cap sz, v ≠ .sl p o len cap sz
theorem append_grows' {n : Nat} {H : AHeap} {v x : AVal} {l new : List AVal} {by' : Nat} (h : Grows n H v l) (hx : srcCells H 1 x = some (new.length, new)) (hn : n ≤ H.nx.toNat) (h0 : 0 < new.length) (hs : allScal new = true)
    (hb : (l.length + new.length) * 2 * by' ≤ 281474976710656) : ∃ v' H', appendA H 1 by' v x = some (v', H') ∧ Grows n H' v' (l ++ new) ∧ Keep n H H' ∧ (∀ p : Pos, p.toNat < H.nx.toNat → OffB v p → PT.get p H'.t = PT.get p H.t) ∧ (∀ p : Pos, p.toNat < H.nx.toNat → OffB v' p) := by
  unfold appendA
  rw [hx]
  rcases h with ⟨rfl, rfl⟩ | ⟨b, rfl, h, h1, h2⟩
  · obtain ⟨k, hk⟩ : ∃ k, new.length = k + 1 := ⟨new.length - 1, by omega⟩
    simp only [hk]
    have hle : Nat.ble (Nat.mul (Nat.succ k) by') 281474976710656 = true := by
      refine ble_t ?_
      rw [hk] at hb
      rw [nmul]
      have : (k + 1) * by' ≤ (0 + (k + 1)) * 2 * by' := Nat.mul_le_mul_right _ (by omega)
      exact Nat.le_trans this hb
    simp only [hle]
    refine ⟨_, _, rfl, .inr ⟨H.nx, ?_, get_new, hn, ?_⟩, keep_new.mono hn, fun p hp _ => keep_new.get p hp, fun p hp o len cap sz e => ?_⟩
    · simp [hk]; rfl
    · show _ < H.nx.succ.toNat
      rw [Pos.toNat_succ]; omega
    · cases e
      exact absurd hp (by show ¬ H.nx.toNat < _; omega)
  · have e1 : Nat.ble (Nat.add l.length new.length) l.length = false := ble_f (by rw [nadd]; omega)
    have e2 : hloadN H b 0 (Nat.mul l.length 1) = some l := by
      unfold hloadN
      rw [h]
      simp only [mul1]
      rw [lsub_of (by omega)]
      simp
    have e3 : Nat.ble (Nat.mul (Nat.mul (Nat.add l.length new.length) 2) by') 281474976710656 = true := ble_t hb
    simp only [e1, e2, e3, h, hs, beq_t]
    refine ⟨_, _, rfl, .inr ⟨(H.kill b).nx, ?_, get_new, hn, ?_⟩, (keep_kill h1).trans (keep_new.mono hn), fun p hp ha => ?_, fun p hp o len cap sz e => ?_⟩
    · simp; rfl
    · show _ < H.nx.succ.toNat
      rw [Pos.toNat_succ]
      show H.nx.toNat < _
      omega
    · rw [keep_new.get p (show p.toNat < (H.kill b).nx.toNat from hp)]
      refine PT.get_set_other _ _ _ _ (fun e => ?_)
      subst e
      exact ha _ _ _ _ rfl
    · cases e
      exact absurd hp (by show ¬ H.nx.toNat < _; omega)

/-- A list of texts that can be read. -/
def Lists (n : Nat) (H : AHeap) (v : AVal) (uss : List (List Nat)) : Prop :=
  ∃ vs, Reads n H v vs ∧ vs.length = uss.length ∧ ∀ (i : Nat) (vi : AVal) (us : List Nat), vs[i]? = some vi → uss[i]? = some us → Reads n H vi (cellsOfBytes us)
theorem Lists.keep {n m : Nat} {H H' : AHeap} {v : AVal} {uss : List (List Nat)} (h : Lists n H v uss) (k : Keep m H H') (hm : n ≤ m) : Lists n H' v uss := by
  obtain ⟨vs, h1, h2, h3⟩ := h
  exact ⟨vs, h1.keep k hm, h2, fun i vi us e1 e2 => (h3 i vi us e1 e2).keep k hm⟩
theorem Lists.mono {n m : Nat} {H : AHeap} {v : AVal} {uss : List (List Nat)} (h : Lists n H v uss) (hm : n ≤ m) : Lists m H v uss := by
  obtain ⟨vs, h1, h2, h3⟩ := h
  exact ⟨vs, h1.mono hm, h2, fun i vi us e1 e2 => (h3 i vi us e1 e2).mono hm⟩
/-- A list of texts behind appends. -/
def GL (n : Nat) (H : AHeap) (v : AVal) (uss : List (List Nat)) : Prop :=
  ∃ vs, Grows n H v vs ∧ vs.length = uss.length ∧ ∀ (i : Nat) (vi : AVal) (us : List Nat), vs[i]? = some vi → uss[i]? = some us → Reads H.nx.toNat H vi (cellsOfBytes us) ∧ ∀ p o len cap sz, vi = .sl p o len cap sz → OffB v p ∧ n ≤ p.toNat
theorem GL.lists {n : Nat} {H : AHeap} {v : AVal} {uss : List (List Nat)} (h : GL n H v uss) : Lists H.nx.toNat H v uss := by
  obtain ⟨vs, h1, h2, h3⟩ := h
  exact ⟨vs, h1.reads, h2, fun i vi us e1 e2 => (h3 i vi us e1 e2).1⟩
theorem GL.keep {n : Nat} {H H' : AHeap} {v : AVal} {uss : List (List Nat)} (h : GL n H v uss) (k : Keep H.nx.toNat H H') : GL n H' v uss := by
  obtain ⟨vs, h1, h2, h3⟩ := h
  exact ⟨vs, h1.keep k, h2, fun i vi us e1 e2 => ⟨((h3 i vi us e1 e2).1.keep k (Nat.le_refl _)).mono k.nx, (h3 i vi us e1 e2).2⟩⟩
theorem GL.nil {n : Nat} {H : AHeap} : GL n H .snil [] := ⟨[], .inl ⟨rfl, rfl⟩, rfl, fun i vi us e => by simp at e⟩
theorem Reads.scal {n : Nat} {H : AHeap} {v : AVal} {l : List AVal} (h : Reads n H v l) : isScal v = true := by
  rcases h with ⟨rfl, _⟩ | ⟨b, o, cap, sz, rfl, _⟩ <;> rfl
theorem GL.append {n : Nat} {H : AHeap} {v vi : AVal} {uss : List (List Nat)} {us : List Nat} (h : GL n H v uss) (hn : n ≤ H.nx.toNat) (hi : Reads H.nx.toNat H vi (cellsOfBytes us)) (ha : ∀ p o len cap sz, vi = .sl p o len cap sz → OffB v p ∧ n ≤ p.toNat) (hl : uss.length ≤ 1073741824) :
    ∃ v' H', appendA (H.new (.cells [vi] false false)).2 1 24 v (.sl H.nx 0 1 1 0) = some (v', H') ∧ GL n H' v' (uss ++ [us]) ∧ Keep n H H' ∧ (∀ p : Pos, p.toNat < H.nx.toNat → OffB v p → PT.get p H'.t = PT.get p H.t) ∧ (∀ p : Pos, p.toNat < H.nx.toNat → OffB v' p) := by
  have hg := h.keep (keep_new (x := .cells [vi] false false))
  obtain ⟨vs, h1, h2, h3⟩ := hg
  have hnx : H.nx.toNat ≤ (H.new (.cells [vi] false false)).2.nx.toNat := keep_new.nx
  obtain ⟨v', H', e, g, k, fr, ap⟩ := append_grows' (by' := 24) h1 (src_new (l := [vi])) (Nat.le_trans hn hnx) (by simp) (scal_one hi.scal) (by simp; omega)
  have hlt : ∀ p : Pos, p.toNat < H.nx.toNat → p.toNat < (H.new (.cells [vi] false false)).2.nx.toNat := fun p hp => Nat.lt_of_lt_of_le hp hnx
  have keepR : ∀ {wi : AVal} {ws : List Nat}, Reads (H.new (.cells [vi] false false)).2.nx.toNat (H.new (.cells [vi] false false)).2 wi (cellsOfBytes ws) → (∀ p o len cap sz, wi = .sl p o len cap sz → OffB v p ∧ n ≤ p.toNat) → Reads H'.nx.toNat H' wi (cellsOfBytes ws) := by
    intro wi ws hr hap
    rcases hr with hr | ⟨b, o, cap, sz, e1, e2, e3, e4⟩
    · exact .inl hr
    · refine .inr ⟨b, o, cap, sz, e1, ?_, Nat.lt_of_lt_of_le e3 k.nx, e4⟩
      unfold hloadN at e2 ⊢
      rw [fr b e3 (hap _ _ _ _ _ e1).1]
      exact e2
  have apR : ∀ {wi : AVal} {ws : List Nat}, Reads (H.new (.cells [vi] false false)).2.nx.toNat (H.new (.cells [vi] false false)).2 wi (cellsOfBytes ws) → ∀ p o len cap sz, wi = .sl p o len cap sz → OffB v' p := by
    intro wi ws hr p o len cap sz e1
    rcases hr with hr | ⟨b, o', cap', sz', e1', e2, e3, _⟩
    · rw [hr.1] at e1; cases e1
    · rw [e1'] at e1; cases e1; exact ap _ e3
  refine ⟨v', H', e, ⟨vs ++ [vi], g, by simp [h2], fun i wi ws e1 e2 => ?_⟩, (keep_new.mono hn).trans k, fun p hp hv => ?_, fun p hp => ap p (hlt p hp)⟩
  · by_cases hlast : i < vs.length
    · rw [List.getElem?_append_left hlast] at e1
      rw [List.getElem?_append_left (by omega)] at e2
      obtain ⟨r1, r2⟩ := h3 i wi ws e1 e2
      exact ⟨keepR r1 r2, fun p o len cap sz e => ⟨apR r1 p o len cap sz e, (r2 p o len cap sz e).2⟩⟩
    · have hi' : i = vs.length := by
        rcases Nat.lt_or_ge i (vs ++ [vi]).length with h | h
        · simp at h; omega
        · rw [List.getElem?_eq_none h] at e1; cases e1
      subst hi'
      simp at e1
      rw [h2] at e2
      simp at e2
      subst e1
      subst e2
      have hi' := (hi.keep (keep_new (x := .cells [vi] false false)) (Nat.le_refl _)).mono hnx
      exact ⟨keepR hi' ha, fun p o len cap sz e => ⟨apR hi' p o len cap sz e, (ha p o len cap sz e).2⟩⟩
  · rw [fr p (hlt p hp) hv]
    exact keep_new.get p hp
end Go.Am
end
