/- Part of the proof: AmF6, AmF7. -/
import Derived.Test.YtkajhokkaadiiaaGreatDoorFn2
set_option linter.unusedSimpArgs false
set_option linter.unusedVariables false
section
namespace Go.Am
open Go

theorem add_200 {i : Nat} (h : i + 200 ≤ 9223372036854775807) : binOpA .add (.int .i64 (.ofNat i)) (.int .i64 200) = some (.int .i64 (.ofNat (i + 200))) := add_ok (k := 200) h

section
variable {E : Env} (C : CodeOk E)
include C
theorem same_lists_loop {n : Nat} {H : AHeap} {x y : AVal} {uss : List (List Nat)} (hx : Lists n H x uss) (hy : Lists n H y uss) (hu : ∀ us ∈ uss, ∀ u ∈ us, u < 256) (hl : uss.length ≤ 4611686018427387904) (k : Nat) :
    ∀ {i : Nat} {t : PT AVal} {ro : Option Pos}, i + k = uss.length → tget t (Pos.ofNat 0) = x → tget t (Pos.ofNat 1) = y → tget t (Pos.ofNat 5) = .int .i64 (.ofNat i) →
    W E (.loop g14l9) ro ⟨t, []⟩ H (fun e a H' => e = .exit 0 ∧ a.ds = [] ∧ H' = H) := by
  obtain ⟨vs, rx, lx, ix⟩ := hx
  obtain ⟨ws, ry, ly, iy⟩ := hy
  induction k with
  | zero =>
    intro i t ro hk h0 h1 h5
    have hi : i = uss.length := by omega
    subst hi
    refine W.loop (W.seq (W.seq (W.region ?_)))
    refine WO.go rfl rfl (fun rec => rfl) ?_
    refine WO.go rfl rfl (fun rec => rfl) ?_
    refine WO.go (v := .int .i64 (.ofNat uss.length)) (H' := H) rfl rfl (fun rec => by simp only [execA, write]; rw [rx.len (by simp [AOpnd.ev, tget_puts, h0]), lx]) ?_
    refine WO.go (v := .bool false) (H' := H) rfl rfl (fun rec => by simp [-Int.ofNat_eq_natCast, execA, write, quiet, AOpnd.ev, tget_puts, h5, lss_f]) (WO.nil ?_)
    refine W.cond_false (by simp [AOpnd.ev, tget_puts]) (W.exit ?_)
    exact ⟨rfl, rfl, rfl⟩
  | succ k ih =>
    intro i t ro hk h0 h1 h5
    have hlt : i < uss.length := by omega
    refine W.loop (W.seq (W.seq (W.region ?_)))
    refine WO.go rfl rfl (fun rec => rfl) ?_
    refine WO.go rfl rfl (fun rec => rfl) ?_
    refine WO.go (v := .int .i64 (.ofNat uss.length)) (H' := H) rfl rfl (fun rec => by simp only [execA, write]; rw [rx.len (by simp [AOpnd.ev, tget_puts, h0]), lx]) ?_
    refine WO.go (v := .bool true) (H' := H) rfl rfl (fun rec => by simp [-Int.ofNat_eq_natCast, execA, write, quiet, AOpnd.ev, tget_puts, h5, lss_t hlt]) (WO.nil ?_)
    refine W.cond_true (by simp [AOpnd.ev, tget_puts]) (W.skip ?_)
    refine W.seq (W.block (W.seq (W.draw ?_)))
    generalize ht : tput _ (some (Pos.ofNat 15)) (AVal.bool true) = t1
    have h0 : tget t1 (Pos.ofNat 0) = x := by rw [← ht]; simp [-Int.ofNat_eq_natCast, AOpnd.ev, tget_puts, h0]
    have h1 : tget t1 (Pos.ofNat 1) = y := by rw [← ht]; simp [-Int.ofNat_eq_natCast, AOpnd.ev, tget_puts, h1]
    have h5 : tget t1 (Pos.ofNat 5) = .int .i64 (.ofNat i) := by rw [← ht]; simp [-Int.ofNat_eq_natCast, AOpnd.ev, tget_puts, h5]
    clear ht
    have hvx : i < vs.length := by omega
    have hvy : i < ws.length := by omega
    obtain ⟨b, o, e2, e1⟩ := rx.at' hvx
    obtain ⟨b', o', e4, e3⟩ := ry.at' hvy
    have rvx := ix i vs[i] uss[i] (List.getElem?_eq_getElem hvx) (List.getElem?_eq_getElem hlt)
    have rvy := iy i ws[i] uss[i] (List.getElem?_eq_getElem hvy) (List.getElem?_eq_getElem hlt)
    generalize vs[i] = vx at e2 rvx
    generalize ws[i] = vy at e4 rvy
    have hui : ∀ u ∈ uss[i], u < 256 := hu _ (List.getElem_mem hlt)
    generalize uss[i] = us at rvx rvy hui
    refine WD.quiet (v := x) rfl (by simp [quiet, AOpnd.ev, h0]) ?_
    refine WD.quiet (v := .int .i64 (.ofNat i)) rfl (by simp [-Int.ofNat_eq_natCast, quiet, AOpnd.ev, tget_puts, h5]) ?_
    refine WD.quiet (v := .ptr b o) rfl (e1 (by simp [-Int.ofNat_eq_natCast, AOpnd.ev, tget_puts]) (by simp [-Int.ofNat_eq_natCast, AOpnd.ev, tget_puts])) ?_
    refine WD.quiet (v := vx) rfl (by simp [quiet, AOpnd.ev, tget_puts, e2]) ?_
    refine WD.quiet (v := y) rfl (by simp [quiet, AOpnd.ev, tget_puts, h1]) ?_
    refine WD.quiet (v := .int .i64 (.ofNat i)) rfl (by simp [-Int.ofNat_eq_natCast, quiet, AOpnd.ev, tget_puts, h5]) ?_
    refine WD.quiet (v := .ptr b' o') rfl (e3 (by simp [-Int.ofNat_eq_natCast, AOpnd.ev, tget_puts]) (by simp [-Int.ofNat_eq_natCast, AOpnd.ev, tget_puts])) ?_
    refine WD.quiet (v := vy) rfl (by simp [quiet, AOpnd.ev, tget_puts, e4]) ?_
    refine WD.loud (v := .bool true) (H' := H) (seen' := []) rfl ?_ (by simp [again]) ?_
    · have hc := same_bytes C rvx rvy hui
      obtain ⟨n0, hc⟩ := hc
      refine ⟨n0, fun n hn => ?_⟩
      simp only [execA]
      have := hc n hn
      simpa [evs, AOpnd.ev, tget_puts] using this
    refine WD.quiet (v := .bool true) rfl (by simp [quiet, AOpnd.ev, tget_puts]) (WD.nil ?_)
    refine W.seq (W.region ?_)
    refine WO.go rfl rfl (fun rec => rfl) ?_
    refine WO.go (v := .bool false) (H' := H) rfl rfl (fun rec => by simp [-Int.ofNat_eq_natCast, execA, write, quiet, AOpnd.ev, tget_puts]) (WO.nil ?_)
    refine W.cond_false (by simp [AOpnd.ev, tget_puts]) (W.skip ?_)
    simp only [inBlock, andThen]
    refine W.region ?_
    refine WO.go rfl rfl (fun rec => rfl) ?_
    refine WO.go (v := .int .i64 (.ofNat (i + 1))) (H' := H) rfl rfl (fun rec => by simp [-Int.ofNat_eq_natCast, execA, write, quiet, AOpnd.ev, tget_puts, h5, add_one (show i + 1 ≤ 9223372036854775807 by omega)]) ?_
    refine WO.go (v := .int .i64 (.ofNat (i + 1))) (H' := H) rfl rfl (fun rec => by simp [-Int.ofNat_eq_natCast, execA, write, quiet, AOpnd.ev, tget_puts]) (WO.nil ?_)
    exact ih (i := i + 1) (by omega) (by simp [tget_puts, h0]) (by simp [tget_puts, h1]) (by simp [tget_puts])

theorem same_lists {n : Nat} {H : AHeap} {x y : AVal} {uss : List (List Nat)} (hx : Lists n H x uss) (hy : Lists n H y uss) (hu : ∀ us ∈ uss, ∀ u ∈ us, u < 256) (hl : uss.length ≤ 4611686018427387904) : CallS E 14 [x, y] H (.bool true) H := by
  suffices h : ∃ v' H', CallS E 14 [x, y] H v' H' ∧ v' = .bool true ∧ H' = H by obtain ⟨v', H', h, rfl, rfl⟩ := h; exact h
  have hx0 := hx
  have hy0 := hy
  obtain ⟨vs, rx, lx, ix⟩ := hx0
  obtain ⟨ws, ry, ly, iy⟩ := hy0
  refine CallS.by (R := fun v' H' => v' = .bool true ∧ H' = H) (t0 := tput (tput .l (some (Pos.ofNat 0)) x) (some (Pos.ofNat 1)) y) (C.s _ rfl) rfl C.f14 rfl ?_
  refine W.seq (W.region ?_)
  refine WO.go rfl rfl (fun rec => rfl) (WO.nil ?_)
  refine W.seq (W.seq (W.region ?_))
  refine WO.go rfl rfl (fun rec => rfl) ?_
  refine WO.go (v := .int .i64 (.ofNat uss.length)) (H' := H) rfl rfl (fun rec => by simp only [execA, write]; rw [rx.len (by simp [AOpnd.ev, tget_puts]), lx]) ?_
  refine WO.go rfl rfl (fun rec => rfl) ?_
  refine WO.go (v := .int .i64 (.ofNat uss.length)) (H' := H) rfl rfl (fun rec => by simp only [execA, write]; rw [ry.len (by simp [AOpnd.ev, tget_puts]), ly]) ?_
  refine WO.go (v := .bool false) (H' := H) rfl rfl (fun rec => by simp [-Int.ofNat_eq_natCast, execA, write, quiet, AOpnd.ev, tget_puts, neq_self]) (WO.nil ?_)
  refine W.cond_false (by simp [AOpnd.ev, tget_puts]) (W.skip ?_)
  refine W.seq (W.seq (W.region ?_))
  refine WO.go (v := .int .i64 (.ofNat 0)) rfl rfl (fun rec => rfl) (WO.nil ?_)
  refine W.block (W.mono (same_lists_loop C hx hy hu hl uss.length (i := 0) (by omega) (by simp [AOpnd.ev, tget_puts]) (by simp [AOpnd.ev, tget_puts]) (by simp [tget_puts])) ?_)
  rintro e ⟨t, ds⟩ H' ⟨rfl, hds, rfl⟩
  have hds : ds = [] := hds
  subst hds
  simp only [inBlock, andThen]
  refine W.seq (W.region ?_)
  refine WO.go rfl rfl (fun rec => rfl) (WO.nil (W.ret ?_))
  exact ⟨.inr rfl, rfl, .bool true, by simp [resultA, g14, AOpnd.ev, tget_puts], rfl, rfl⟩
end

/-! Chunks of two hundred. -/
def chs (l : List Nat) (k : Nat) : List (List Nat) := (List.range k).map fun j => all4 ((l.drop (200 * j)).take 200)
theorem chs_succ (l : List Nat) (k : Nat) : chs l (k + 1) = chs l k ++ [all4 ((l.drop (200 * k)).take 200)] := by
  simp [chs, List.range_succ]
theorem chs_length (l : List Nat) (k : Nat) : (chs l k).length = k := by simp [chs]
theorem all4_length : ∀ (l : List Nat), (all4 l).length = 4 * l.length
  | [] => rfl
  | a :: l => by
    have := all4_length l
    simp only [all4, List.flatMap_cons, List.length_append, List.length_cons] at this ⊢
    rw [this]; simp [b4]; omega
theorem all4_append (l m : List Nat) : all4 (l ++ m) = all4 l ++ all4 m := by simp [all4]

section
variable {E : Env} (C : CodeOk E)
include C
/-- The reference's inner loop: one chunk. -/
theorem ref_inner {n : Nat} {H : AHeap} {x : AVal} {l : List Nat} (hx : Reads n H x (icells l)) (hn : n ≤ H.nx.toNat) (hl : l.length ≤ 1073741824) {a0 : Nat} (ha : a0 ≤ l.length) {v8 v9 : AVal} (d : Nat) :
    ∀ {p : Nat} {t : PT AVal} {v : AVal} {H1 : AHeap} {ro : Option Pos}, p + d = min l.length (a0 + 200) → a0 ≤ p → tget t (Pos.ofNat 1) = x → tget t (Pos.ofNat 8) = v8 → tget t (Pos.ofNat 9) = v9 → tget t (Pos.ofNat 10) = .int .i64 (.ofNat a0) → tget t (Pos.ofNat 12) = .int .i64 (.ofNat p) → tget t (Pos.ofNat 11) = v →
      Grows H.nx.toNat H1 v (cellsOfBytes (all4 ((l.drop a0).take (p - a0)))) → Keep H.nx.toNat H H1 →
    W E (.loop g11l20) ro ⟨t, []⟩ H1 (fun e a H' => e = .exit 4 ∧ a.ds = [] ∧ Grows H.nx.toNat H' (tget a.t (Pos.ofNat 11)) (cellsOfBytes (all4 ((l.drop a0).take 200))) ∧ Keep H.nx.toNat H H' ∧ tget a.t (Pos.ofNat 1) = x ∧ tget a.t (Pos.ofNat 8) = v8 ∧ tget a.t (Pos.ofNat 9) = v9 ∧ tget a.t (Pos.ofNat 10) = .int .i64 (.ofNat a0)) := by
  induction d with
  | zero =>
    intro p t v H1 ro hp hap h1 h8 h9 h10 h12 h11 hg hk
    refine W.loop (W.seq (W.seq (W.region ?_)))
    refine WO.go rfl rfl (fun rec => rfl) ?_
    refine WO.go rfl rfl (fun rec => rfl) ?_
    refine WO.go (v := .int .i64 (.ofNat l.length)) (H' := H1) rfl rfl (fun rec => by simp only [execA, write]; rw [(hx.keep hk hn).len (by simp [AOpnd.ev, tget_puts, h1]), icells_length]) ?_
    have hfin : (l.drop a0).take (p - a0) = (l.drop a0).take 200 := by
      rcases Nat.lt_or_ge (a0 + 200) l.length with h | h
      · have : p - a0 = 200 := by omega
        rw [this]
      · rw [List.take_of_length_le (by simp; omega), List.take_of_length_le (by simp; omega)]
    by_cases hpl : p < l.length
    · refine WO.go (v := .bool true) (H' := H1) rfl rfl (fun rec => by simp [-Int.ofNat_eq_natCast, execA, write, quiet, AOpnd.ev, tget_puts, h12, lss_t hpl]) ?_
      refine WO.go (v := .bool true) (H' := H1) rfl rfl (fun rec => by simp [execA, write, quiet, AOpnd.ev, tget_puts]) ?_
      refine WO.go (v := .int .i64 (.ofNat p)) (H' := H1) (want_yes (by simp [tget_puts])) rfl (fun rec => by simp [-Int.ofNat_eq_natCast, execA, write, quiet, AOpnd.ev, tget_puts, h12]) ?_
      refine WO.go (v := .int .i64 (.ofNat a0)) (H' := H1) (want_yes (by simp [tget_puts])) rfl (fun rec => by simp [-Int.ofNat_eq_natCast, execA, write, quiet, AOpnd.ev, tget_puts, h10]) ?_
      refine WO.go (v := .int .i64 (.ofNat (a0 + 200))) (H' := H1) (want_yes (by simp [tget_puts])) rfl (fun rec => by simp [-Int.ofNat_eq_natCast, execA, write, quiet, AOpnd.ev, tget_puts, add_200 (show a0 + 200 ≤ 9223372036854775807 by omega)]) ?_
      refine WO.go (v := .bool false) (H' := H1) (want_yes (by simp [tget_puts])) rfl (fun rec => by simp [-Int.ofNat_eq_natCast, execA, write, quiet, AOpnd.ev, tget_puts, lss_f (show a0 + 200 ≤ p by omega)]) ?_
      refine WO.go (v := .bool false) (H' := H1) rfl rfl (fun rec => by simp [execA, write, quiet, AOpnd.ev, tget_puts]) (WO.nil ?_)
      refine W.cond_false (by simp [AOpnd.ev, tget_puts]) (W.exit ?_)
      exact ⟨rfl, rfl, by rw [← hfin]; simpa [tget_puts, h11] using hg, hk, by simp [tget_puts, h1], by simp [tget_puts, h8], by simp [tget_puts, h9], by simp [-Int.ofNat_eq_natCast, tget_puts, h10]⟩
    · refine WO.go (v := .bool false) (H' := H1) rfl rfl (fun rec => by simp [-Int.ofNat_eq_natCast, execA, write, quiet, AOpnd.ev, tget_puts, h12, lss_f (show l.length ≤ p by omega)]) ?_
      refine WO.go (v := .bool false) (H' := H1) rfl rfl (fun rec => by simp [execA, write, quiet, AOpnd.ev, tget_puts]) ?_
      refine WO.not (want_no (by simp [tget_puts])) ?_
      refine WO.not (want_no (by simp [tget_puts])) ?_
      refine WO.not (want_no (by simp [tget_puts])) ?_
      refine WO.not (want_no (by simp [tget_puts])) ?_
      refine WO.go (v := .bool false) (H' := H1) rfl rfl (fun rec => by simp [execA, write, quiet, AOpnd.ev, tget_puts]) (WO.nil ?_)
      refine W.cond_false (by simp [AOpnd.ev, tget_puts]) (W.exit ?_)
      exact ⟨rfl, rfl, by rw [← hfin]; simpa [tget_puts, h11] using hg, hk, by simp [tget_puts, h1], by simp [tget_puts, h8], by simp [tget_puts, h9], by simp [-Int.ofNat_eq_natCast, tget_puts, h10]⟩
  | succ d ih =>
    intro p t v H1 ro hp hap h1 h8 h9 h10 h12 h11 hg hk
    have hpl : p < l.length := by omega
    have hpl' : p < (icells l).length := by rw [icells_length]; exact hpl
    refine W.loop (W.seq (W.seq (W.region ?_)))
    refine WO.go rfl rfl (fun rec => rfl) ?_
    refine WO.go rfl rfl (fun rec => rfl) ?_
    refine WO.go (v := .int .i64 (.ofNat l.length)) (H' := H1) rfl rfl (fun rec => by simp only [execA, write]; rw [(hx.keep hk hn).len (by simp [AOpnd.ev, tget_puts, h1]), icells_length]) ?_
    refine WO.go (v := .bool true) (H' := H1) rfl rfl (fun rec => by simp [-Int.ofNat_eq_natCast, execA, write, quiet, AOpnd.ev, tget_puts, h12, lss_t hpl]) ?_
    refine WO.go (v := .bool true) (H' := H1) rfl rfl (fun rec => by simp [execA, write, quiet, AOpnd.ev, tget_puts]) ?_
    refine WO.go (v := .int .i64 (.ofNat p)) (H' := H1) (want_yes (by simp [tget_puts])) rfl (fun rec => by simp [-Int.ofNat_eq_natCast, execA, write, quiet, AOpnd.ev, tget_puts, h12]) ?_
    refine WO.go (v := .int .i64 (.ofNat a0)) (H' := H1) (want_yes (by simp [tget_puts])) rfl (fun rec => by simp [-Int.ofNat_eq_natCast, execA, write, quiet, AOpnd.ev, tget_puts, h10]) ?_
    refine WO.go (v := .int .i64 (.ofNat (a0 + 200))) (H' := H1) (want_yes (by simp [tget_puts])) rfl (fun rec => by simp [-Int.ofNat_eq_natCast, execA, write, quiet, AOpnd.ev, tget_puts, add_200 (show a0 + 200 ≤ 9223372036854775807 by omega)]) ?_
    refine WO.go (v := .bool true) (H' := H1) (want_yes (by simp [tget_puts])) rfl (fun rec => by simp [-Int.ofNat_eq_natCast, execA, write, quiet, AOpnd.ev, tget_puts, lss_t (show p < a0 + 200 by omega)]) ?_
    refine WO.go (v := .bool true) (H' := H1) rfl rfl (fun rec => by simp [execA, write, quiet, AOpnd.ev, tget_puts]) (WO.nil ?_)
    refine W.cond_true (by simp [AOpnd.ev, tget_puts]) (W.skip ?_)
    refine W.seq (W.block (W.region ?_))
    generalize ht : tput _ (some (Pos.ofNat 70)) (AVal.bool true) = t1
    have h1 : tget t1 (Pos.ofNat 1) = x := by rw [← ht]; simp [-Int.ofNat_eq_natCast, AOpnd.ev, tget_puts, h1]
    have h8 : tget t1 (Pos.ofNat 8) = v8 := by rw [← ht]; simp [-Int.ofNat_eq_natCast, AOpnd.ev, tget_puts, h8]
    have h9 : tget t1 (Pos.ofNat 9) = v9 := by rw [← ht]; simp [-Int.ofNat_eq_natCast, AOpnd.ev, tget_puts, h9]
    have h10 : tget t1 (Pos.ofNat 10) = .int .i64 (.ofNat a0) := by rw [← ht]; simp [-Int.ofNat_eq_natCast, AOpnd.ev, tget_puts, h10]
    have h12 : tget t1 (Pos.ofNat 12) = .int .i64 (.ofNat p) := by rw [← ht]; simp [-Int.ofNat_eq_natCast, AOpnd.ev, tget_puts, h12]
    have h11 : tget t1 (Pos.ofNat 11) = v := by rw [← ht]; simp [-Int.ofNat_eq_natCast, AOpnd.ev, tget_puts, h11]
    clear ht
    obtain ⟨b, o, e2, e1⟩ := (hx.keep hk hn).at' hpl'
    rw [icells_at] at e2
    refine WO.go (v := v) (H' := H1) rfl rfl (fun rec => by simp [-Int.ofNat_eq_natCast, execA, write, quiet, AOpnd.ev, h11]) ?_
    refine WO.go (v := x) (H' := H1) rfl rfl (fun rec => by simp [-Int.ofNat_eq_natCast, execA, write, quiet, AOpnd.ev, tget_puts, h1]) ?_
    refine WO.go (v := .int .i64 (.ofNat p)) (H' := H1) rfl rfl (fun rec => by simp [-Int.ofNat_eq_natCast, execA, write, quiet, AOpnd.ev, tget_puts, h12]) ?_
    refine WO.go (v := .ptr b o) (H' := H1) rfl rfl (fun rec => exec_idxS (e1 (by simp [-Int.ofNat_eq_natCast, AOpnd.ev, tget_puts]) (by simp [-Int.ofNat_eq_natCast, AOpnd.ev, tget_puts]))) ?_
    refine WO.go (v := .int .i64 (.ofNat l[p])) (H' := H1) rfl rfl (fun rec => by simp [-Int.ofNat_eq_natCast, execA, write, quiet, AOpnd.ev, tget_puts, e2]) ?_
    obtain ⟨v', H', hc, r3, k3⟩ := four_ref C hg hk.nx (by rw [all4_length]; simp; omega) l[p]
    refine WO.call (v := v') (H' := H') rfl (by simpa [-Int.ofNat_eq_natCast, evs, AOpnd.ev, tget_puts] using hc) ?_
    refine WO.go (v := v') (H' := H') rfl rfl (fun rec => by simp [-Int.ofNat_eq_natCast, execA, write, quiet, AOpnd.ev, tget_puts]) (WO.nil ?_)
    simp only [inBlock, andThen]
    refine W.region ?_
    refine WO.go rfl rfl (fun rec => rfl) ?_
    refine WO.go (v := .int .i64 (.ofNat (p + 1))) (H' := H') rfl rfl (fun rec => by simp [-Int.ofNat_eq_natCast, execA, write, quiet, AOpnd.ev, tget_puts, h12, add_one (show p + 1 ≤ 9223372036854775807 by omega)]) ?_
    refine WO.go (v := .int .i64 (.ofNat (p + 1))) (H' := H') rfl rfl (fun rec => by simp [-Int.ofNat_eq_natCast, execA, write, quiet, AOpnd.ev, tget_puts]) (WO.nil ?_)
    refine ih (p := p + 1) (v := v') (by omega) (by omega) (by simp [tget_puts, h1]) (by simp [tget_puts, h8]) (by simp [tget_puts, h9]) (by simp [-Int.ofNat_eq_natCast, tget_puts, h10]) (by simp [tget_puts]) (by simp [tget_puts]) ?_ (hk.trans k3)
    have hstep : (l.drop a0).take (p + 1 - a0) = (l.drop a0).take (p - a0) ++ [l[p]] := by
      rw [show p + 1 - a0 = (p - a0) + 1 by omega, List.take_succ_eq_append_getElem (by simp; omega)]
      simp [show a0 + (p - a0) = p by omega]
    rw [hstep, all4_append]
    simpa [all4] using r3
end
end Go.Am
end

section
namespace Go.Am
open Go

theorem Grows.off {n : Nat} {H : AHeap} {v : AVal} {l : List AVal} (h : Grows n H v l) {p : Pos} (hp : H.nx.toNat ≤ p.toNat) : OffB v p := by
  intro o len cap sz e
  rcases h with ⟨rfl, _⟩ | ⟨b, rfl, _, _, hb⟩
  · cases e
  · cases e; omega
/-- A value that lies apart from a growing list. -/
def Beside (H : AHeap) (w v : AVal) (l : List AVal) : Prop := Reads H.nx.toNat H v l ∧ ∀ p o len cap sz, v = .sl p o len cap sz → OffB w p
theorem Beside.keep {H H' : AHeap} {w v : AVal} {l : List AVal} (h : Beside H w v l) (k : Keep H.nx.toNat H H') : Beside H' w v l := ⟨(h.1.keep k (Nat.le_refl _)).mono k.nx, h.2⟩
theorem Beside.step {H H' : AHeap} {w w' v : AVal} {l : List AVal} {n : Nat} (h : Beside H w v l) (k : Keep n H H') (fr : ∀ p : Pos, p.toNat < H.nx.toNat → OffB w p → PT.get p H'.t = PT.get p H.t) (ap : ∀ p : Pos, p.toNat < H.nx.toNat → OffB w' p) : Beside H' w' v l := by
  obtain ⟨hr, ho⟩ := h
  rcases hr with ⟨rfl, hl⟩ | ⟨b, o, cap, sz, e1, e2, e3, e4⟩
  · exact ⟨.inl ⟨rfl, hl⟩, fun p o len cap sz e => by cases e⟩
  · refine ⟨.inr ⟨b, o, cap, sz, e1, ?_, Nat.lt_of_lt_of_le e3 k.nx, e4⟩, fun p o' len cap' sz' e => ?_⟩
    · unfold hloadN at e2 ⊢
      rw [fr b e3 (ho _ _ _ _ _ e1)]
      exact e2
    · rw [e1] at e; cases e; exact ap _ e3

def kc (l : List Nat) : Nat := (l.length + 199) / 200
/-- Are they all numbers of vertices? -/
def okz (zs : List Int) (z : Int) : Prop := 0 ≤ z ∧ z < (zs.length : Int)

section
variable {E : Env} (C : CodeOk E)
include C
theorem ref_outer {H : AHeap} {x : AVal} {l : List Nat} {n : Nat} (hx : Reads n H x (icells l)) (hn : n ≤ H.nx.toNat) (hl : l.length ≤ 1073741824) {hv : AVal} {hc : List AVal} (d : Nat) :
    ∀ {k : Nat} {t : PT AVal} {dv : AVal} {H1 : AHeap} {ro : Option Pos}, k + d = kc l → tget t (Pos.ofNat 1) = x → tget t (Pos.ofNat 8) = hv → tget t (Pos.ofNat 9) = dv → tget t (Pos.ofNat 10) = .int .i64 (.ofNat (200 * k)) →
      GL H.nx.toNat H1 dv (chs l k) → Beside H1 dv hv hc → Keep H.nx.toNat H H1 →
    W E (.loop g11l23) ro ⟨t, []⟩ H1 (fun e a H' => e = .exit 2 ∧ a.ds = [] ∧ Lists H'.nx.toNat H' (tget a.t (Pos.ofNat 9)) (chs l (kc l)) ∧ tget a.t (Pos.ofNat 8) = hv ∧ Reads H'.nx.toNat H' hv hc ∧ Keep H.nx.toNat H H') := by
  induction d with
  | zero =>
    intro k t dv H1 ro hk h1 h8 h9 h10 hg hb hkeep
    have hge : l.length ≤ 200 * k := by unfold kc at hk; omega
    refine W.loop (W.seq (W.seq (W.region ?_)))
    refine WO.go rfl rfl (fun rec => rfl) ?_
    refine WO.go rfl rfl (fun rec => rfl) ?_
    refine WO.go (v := .int .i64 (.ofNat l.length)) (H' := H1) rfl rfl (fun rec => by simp only [execA, write]; rw [(hx.keep hkeep hn).len (by simp [AOpnd.ev, tget_puts, h1]), icells_length]) ?_
    refine WO.go (v := .bool false) (H' := H1) rfl rfl (fun rec => by simp [-Int.ofNat_eq_natCast, execA, write, quiet, AOpnd.ev, tget_puts, h10, lss_f hge]) (WO.nil ?_)
    refine W.cond_false (by simp [AOpnd.ev, tget_puts]) (W.exit ?_)
    have hkk : k = kc l := by omega
    subst hkk
    exact ⟨rfl, rfl, by simpa [tget_puts, h9] using hg.lists, by simp [tget_puts, h8], hb.1, hkeep⟩
  | succ d ih =>
    intro k t dv H1 ro hk h1 h8 h9 h10 hg hb hkeep
    have hlt : 200 * k < l.length := by unfold kc at hk; omega
    refine W.loop (W.seq (W.seq (W.region ?_)))
    refine WO.go rfl rfl (fun rec => rfl) ?_
    refine WO.go rfl rfl (fun rec => rfl) ?_
    refine WO.go (v := .int .i64 (.ofNat l.length)) (H' := H1) rfl rfl (fun rec => by simp only [execA, write]; rw [(hx.keep hkeep hn).len (by simp [AOpnd.ev, tget_puts, h1]), icells_length]) ?_
    refine WO.go (v := .bool true) (H' := H1) rfl rfl (fun rec => by simp [-Int.ofNat_eq_natCast, execA, write, quiet, AOpnd.ev, tget_puts, h10, lss_t hlt]) (WO.nil ?_)
    refine W.cond_true (by simp [AOpnd.ev, tget_puts]) (W.skip ?_)
    refine W.seq (W.block (W.seq (W.region ?_)))
    refine WO.go (v := .snil) (H' := H1) rfl rfl (fun rec => rfl) (WO.nil ?_)
    refine W.seq (W.seq (W.region ?_))
    refine WO.go (v := .int .i64 (.ofNat (200 * k))) (H' := H1) rfl rfl (fun rec => by simp [-Int.ofNat_eq_natCast, execA, write, quiet, AOpnd.ev, tget_puts, h10]) ?_
    refine WO.go (v := .int .i64 (.ofNat (200 * k))) (H' := H1) rfl rfl (fun rec => by simp [-Int.ofNat_eq_natCast, execA, write, quiet, AOpnd.ev, tget_puts]) (WO.nil ?_)
    refine W.block (W.mono (ref_inner C (hx.keep hkeep hn) (Nat.le_trans hn hkeep.nx) hl (Nat.le_of_lt hlt) (v8 := hv) (v9 := dv) (min l.length (200 * k + 200) - 200 * k) (p := 200 * k) (v := .snil) (by omega) (Nat.le_refl _) (by simp [AOpnd.ev, tget_puts, h1]) (by simp [AOpnd.ev, tget_puts, h8]) (by simp [AOpnd.ev, tget_puts, h9]) (by simp [-Int.ofNat_eq_natCast, AOpnd.ev, tget_puts, h10]) (by simp [tget_puts]) (by simp [tget_puts]) (.inl ⟨rfl, by simp [all4, cellsOfBytes]⟩) (Keep.refl _ _)) ?_)
    rintro e ⟨t2, ds⟩ H2 ⟨rfl, hds, g2, k2, h1, h8, h9, h10⟩
    have hds : ds = [] := hds
    subst hds
    have h1 : tget t2 (Pos.ofNat 1) = x := h1
    have h8 : tget t2 (Pos.ofNat 8) = hv := h8
    have h9 : tget t2 (Pos.ofNat 9) = dv := h9
    have h10 : tget t2 (Pos.ofNat 10) = .int .i64 (.ofNat (200 * k)) := h10
    have g2 : Grows H1.nx.toNat H2 (tget t2 (Pos.ofNat 11)) (cellsOfBytes (all4 ((l.drop (200 * k)).take 200))) := g2
    simp only [inBlock, andThen]
    generalize h11 : tget t2 (Pos.ofNat 11) = vi at g2
    refine W.region ?_
    refine WO.go (v := dv) (H' := H2) rfl rfl (fun rec => by simp [-Int.ofNat_eq_natCast, execA, write, quiet, AOpnd.ev, h9]) ?_
    refine WO.go (v := vi) (H' := H2) rfl rfl (fun rec => by simp [-Int.ofNat_eq_natCast, execA, write, quiet, AOpnd.ev, tget_puts, h11]) ?_
    have hgd := hg
    obtain ⟨vs, gd, _, _⟩ := hgd
    have hoff : ∀ p o len cap sz, vi = .sl p o len cap sz → OffB dv p ∧ H.nx.toNat ≤ p.toNat := by
      intro p o len cap sz e
      rcases g2 with ⟨rfl, _⟩ | ⟨b, rfl, _, hb1, _⟩
      · cases e
      · cases e; exact ⟨gd.off hb1, Nat.le_trans hkeep.nx hb1⟩
    obtain ⟨v', H', e3, g3, k3, fr, ap⟩ := (hg.keep k2).append (Nat.le_trans hkeep.nx k2.nx) g2.reads hoff (by rw [chs_length]; omega)
    refine WO.go (v := .sl H2.nx 0 1 1 0) (H' := (H2.new (.cells [vi] false false)).2) rfl rfl (fun rec => by simp only [execA, write]; rw [fill1 (v := vi) (by simp [AOpnd.ev, tget_puts]) g2.reads.scal]; rfl) ?_
    refine WO.go (v := v') (H' := H') rfl rfl (fun rec => by simp [-Int.ofNat_eq_natCast, execA, write, AOpnd.ev, tget_puts, e3]) ?_
    refine WO.go (v := v') (H' := H') rfl rfl (fun rec => by simp [-Int.ofNat_eq_natCast, execA, write, quiet, AOpnd.ev, tget_puts]) (WO.nil ?_)
    refine W.region ?_
    refine WO.go (v := .int .i64 (.ofNat (200 * k))) (H' := H') rfl rfl (fun rec => by simp [-Int.ofNat_eq_natCast, execA, write, quiet, AOpnd.ev, tget_puts, h10]) ?_
    refine WO.go (v := .int .i64 (.ofNat (200 * (k + 1)))) (H' := H') rfl rfl (fun rec => by simp [-Int.ofNat_eq_natCast, execA, write, quiet, AOpnd.ev, tget_puts, add_200 (show 200 * k + 200 ≤ 9223372036854775807 by omega), Nat.mul_add]) ?_
    refine WO.go (v := .int .i64 (.ofNat (200 * (k + 1)))) (H' := H') rfl rfl (fun rec => by simp [-Int.ofNat_eq_natCast, execA, write, quiet, AOpnd.ev, tget_puts]) (WO.nil ?_)
    refine ih (k := k + 1) (dv := v') (by omega) (by simp [tget_puts, h1]) (by simp [tget_puts, h8]) (by simp [tget_puts]) (by simp [tget_puts]) (by rw [chs_succ]; exact g3) ((hb.keep k2).step k3 fr ap) ((hkeep.trans (k2.mono hkeep.nx)).trans k3)

omit C in
theorem ref_check {H : AHeap} {x : AVal} {zs : List Int} {n : Nat} (hx : Reads n H x (zcells zs)) (hl : zs.length ≤ 1073741824) {gen : AVal} (d : Nat) :
    ∀ {i : Nat} {t : PT AVal} {ro : Option Pos}, i + d = zs.length → tget t (Pos.ofNat 0) = gen → tget t (Pos.ofNat 1) = x → tget t (Pos.ofNat 7) = .int .i64 (.ofNat i) →
    W E (.loop g11l8) ro ⟨t, []⟩ H (fun e a H' => a.ds = [] ∧ H' = H ∧ ((e = .exit 0 ∧ (∀ z ∈ zs.drop i, okz zs z) ∧ tget a.t (Pos.ofNat 0) = gen ∧ tget a.t (Pos.ofNat 1) = x) ∨
      (e = .ret ∧ (∃ z ∈ zs.drop i, ¬ okz zs z) ∧ tget a.t (Pos.ofNat 4) = .snil ∧ tget a.t (Pos.ofNat 5) = .snil ∧ tget a.t (Pos.ofNat 6) = .int .i64 191))) := by
  induction d with
  | zero =>
    intro i t ro hd h0 h1 h7
    have hi : i = zs.length := by omega
    subst hi
    refine W.loop (W.seq (W.seq (W.region ?_)))
    refine WO.go rfl rfl (fun rec => rfl) ?_
    refine WO.go rfl rfl (fun rec => rfl) ?_
    refine WO.go (v := .int .i64 (.ofNat zs.length)) (H' := H) rfl rfl (fun rec => by simp only [execA, write]; rw [hx.len (by simp [AOpnd.ev, tget_puts, h1]), zcells_length]) ?_
    refine WO.go (v := .bool false) (H' := H) rfl rfl (fun rec => by simp [-Int.ofNat_eq_natCast, execA, write, quiet, AOpnd.ev, tget_puts, h7, lss_f]) (WO.nil ?_)
    refine W.cond_false (by simp [AOpnd.ev, tget_puts]) (W.exit ?_)
    exact ⟨rfl, rfl, .inl ⟨rfl, by simp, by simp [tget_puts, h0], by simp [tget_puts, h1]⟩⟩
  | succ d ih =>
    intro i t ro hd h0 h1 h7
    have hlt : i < zs.length := by omega
    have hlt' : i < (zcells zs).length := by rw [zcells_length]; exact hlt
    have hdrop : zs.drop i = zs[i] :: zs.drop (i + 1) := List.drop_eq_getElem_cons hlt
    refine W.loop (W.seq (W.seq (W.region ?_)))
    refine WO.go rfl rfl (fun rec => rfl) ?_
    refine WO.go rfl rfl (fun rec => rfl) ?_
    refine WO.go (v := .int .i64 (.ofNat zs.length)) (H' := H) rfl rfl (fun rec => by simp only [execA, write]; rw [hx.len (by simp [AOpnd.ev, tget_puts, h1]), zcells_length]) ?_
    refine WO.go (v := .bool true) (H' := H) rfl rfl (fun rec => by simp [-Int.ofNat_eq_natCast, execA, write, quiet, AOpnd.ev, tget_puts, h7, lss_t hlt]) (WO.nil ?_)
    refine W.cond_true (by simp [AOpnd.ev, tget_puts]) (W.skip ?_)
    refine W.seq (W.block (W.seq (W.region ?_)))
    generalize ht : tput _ (some (Pos.ofNat 27)) (AVal.bool true) = t1
    have h0 : tget t1 (Pos.ofNat 0) = gen := by rw [← ht]; simp [-Int.ofNat_eq_natCast, AOpnd.ev, tget_puts, h0]
    have h1 : tget t1 (Pos.ofNat 1) = x := by rw [← ht]; simp [-Int.ofNat_eq_natCast, AOpnd.ev, tget_puts, h1]
    have h7 : tget t1 (Pos.ofNat 7) = .int .i64 (.ofNat i) := by rw [← ht]; simp [-Int.ofNat_eq_natCast, AOpnd.ev, tget_puts, h7]
    clear ht
    obtain ⟨b, o, e2, e1⟩ := hx.at' hlt'
    rw [zcells_at] at e2
    generalize hz : zs[i] = z at e2 hdrop
    refine WO.go (v := x) (H' := H) rfl rfl (fun rec => by simp [-Int.ofNat_eq_natCast, execA, write, quiet, AOpnd.ev, h1]) ?_
    refine WO.go (v := .int .i64 (.ofNat i)) (H' := H) rfl rfl (fun rec => by simp [-Int.ofNat_eq_natCast, execA, write, quiet, AOpnd.ev, tget_puts, h7]) ?_
    refine WO.go (v := .ptr b o) (H' := H) rfl rfl (fun rec => exec_idxS (e1 (by simp [-Int.ofNat_eq_natCast, AOpnd.ev, tget_puts]) (by simp [-Int.ofNat_eq_natCast, AOpnd.ev, tget_puts]))) ?_
    refine WO.go (v := .int .i64 z) (H' := H) rfl rfl (fun rec => by simp [-Int.ofNat_eq_natCast, execA, write, quiet, AOpnd.ev, tget_puts, e2]) ?_
    refine WO.go (v := .bool (decide (z < 0))) (H' := H) rfl rfl (fun rec => by simp [-Int.ofNat_eq_natCast, execA, write, quiet, AOpnd.ev, tget_puts, z_lss]) ?_
    refine WO.go (v := .bool (decide (z < 0))) (H' := H) rfl rfl (fun rec => by simp [-Int.ofNat_eq_natCast, execA, write, quiet, AOpnd.ev, tget_puts]) ?_
    by_cases hneg : z < 0
    · have hd1 : decide (z < 0) = true := by simp [hneg]
      simp only [hd1]
      refine WO.not (want_no (by simp [tget_puts])) ?_
      refine WO.not (want_no (by simp [tget_puts])) ?_
      refine WO.not (want_no (by simp [tget_puts])) ?_
      refine WO.not (want_no (by simp [tget_puts])) ?_
      refine WO.not (want_no (by simp [tget_puts])) ?_
      refine WO.not (want_no (by simp [tget_puts])) ?_
      refine WO.not (want_no (by simp [tget_puts])) ?_
      refine WO.go (v := .bool true) (H' := H) rfl rfl (fun rec => by simp [execA, write, quiet, AOpnd.ev, tget_puts]) (WO.nil ?_)
      refine W.cond_true (by simp [AOpnd.ev, tget_puts]) (W.seq (W.region ?_))
      refine WO.go rfl rfl (fun rec => rfl) ?_
      refine WO.go rfl rfl (fun rec => rfl) ?_
      refine WO.go rfl rfl (fun rec => rfl) (WO.nil (W.ret ?_))
      refine ⟨rfl, rfl, .inr ⟨rfl, ⟨z, by rw [hdrop]; simp, fun h => by have := h.1; omega⟩, by simp [AOpnd.ev, tget_puts], by simp [AOpnd.ev, tget_puts], by simp [AOpnd.ev, tget_puts]⟩⟩
    · have hd1 : decide (z < 0) = false := by simp [hneg]
      simp only [hd1]
      have wy : ∀ {t : PT AVal} {p : Pos}, tget t p = .bool false → wantedA t (some (p, false)) = some true := fun h => want_yes h
      refine WO.go (v := x) (H' := H) (wy (by simp [tget_puts])) rfl (fun rec => by simp [execA, write, quiet, AOpnd.ev, tget_puts, h1]) ?_
      refine WO.go (v := .int .i64 (.ofNat i)) (H' := H) (wy (by simp [tget_puts])) rfl (fun rec => by simp [-Int.ofNat_eq_natCast, execA, write, quiet, AOpnd.ev, tget_puts, h7]) ?_
      refine WO.go (v := .ptr b o) (H' := H) (wy (by simp [tget_puts])) rfl (fun rec => exec_idxS (e1 (by simp [-Int.ofNat_eq_natCast, AOpnd.ev, tget_puts]) (by simp [-Int.ofNat_eq_natCast, AOpnd.ev, tget_puts]))) ?_
      refine WO.go (v := .int .i64 z) (H' := H) (wy (by simp [tget_puts])) rfl (fun rec => by simp [execA, write, quiet, AOpnd.ev, tget_puts, e2]) ?_
      refine WO.go (v := x) (H' := H) (wy (by simp [tget_puts])) rfl (fun rec => by simp [execA, write, quiet, AOpnd.ev, tget_puts, h1]) ?_
      refine WO.go (v := .int .i64 (.ofNat zs.length)) (H' := H) (wy (by simp [tget_puts])) rfl (fun rec => by simp only [execA, write]; rw [hx.len (by simp [AOpnd.ev, tget_puts]), zcells_length]) ?_
      refine WO.go (v := .bool (decide ((zs.length : Int) ≤ z))) (H' := H) (wy (by simp [tget_puts])) rfl (fun rec => by simp [execA, write, quiet, AOpnd.ev, tget_puts, z_geq]) ?_
      refine WO.go (v := .bool (decide ((zs.length : Int) ≤ z))) (H' := H) rfl rfl (fun rec => by simp [execA, write, quiet, AOpnd.ev, tget_puts]) (WO.nil ?_)
      by_cases hbig : (zs.length : Int) ≤ z
      · have hd2 : decide ((zs.length : Int) ≤ z) = true := by simp [hbig]
        simp only [hd2]
        refine W.cond_true (by simp [AOpnd.ev, tget_puts]) (W.seq (W.region ?_))
        refine WO.go rfl rfl (fun rec => rfl) ?_
        refine WO.go rfl rfl (fun rec => rfl) ?_
        refine WO.go rfl rfl (fun rec => rfl) (WO.nil (W.ret ?_))
        refine ⟨rfl, rfl, .inr ⟨rfl, ⟨z, by rw [hdrop]; simp, fun h => by have := h.2; omega⟩, by simp [AOpnd.ev, tget_puts], by simp [AOpnd.ev, tget_puts], by simp [AOpnd.ev, tget_puts]⟩⟩
      · have hd2 : decide ((zs.length : Int) ≤ z) = false := by simp [hbig]
        simp only [hd2]
        refine W.cond_false (by simp [AOpnd.ev, tget_puts]) (W.skip ?_)
        simp only [inBlock, andThen]
        refine W.region ?_
        refine WO.go rfl rfl (fun rec => rfl) ?_
        refine WO.go (v := .int .i64 (.ofNat (i + 1))) (H' := H) rfl rfl (fun rec => by simp [-Int.ofNat_eq_natCast, execA, write, quiet, AOpnd.ev, tget_puts, h7, add_one (show i + 1 ≤ 9223372036854775807 by omega)]) ?_
        refine WO.go (v := .int .i64 (.ofNat (i + 1))) (H' := H) rfl rfl (fun rec => by simp [-Int.ofNat_eq_natCast, execA, write, quiet, AOpnd.ev, tget_puts]) (WO.nil ?_)
        refine W.mono (ih (i := i + 1) (by omega) (by simp [tget_puts, h0]) (by simp [tget_puts, h1]) (by simp [tget_puts])) ?_
        rintro e a H' ⟨hds, hH, hor⟩
        refine ⟨hds, hH, ?_⟩
        rcases hor with ⟨he, hall, q⟩ | ⟨he, ⟨w, hw, hbad⟩, q⟩
        · refine .inl ⟨he, fun w hw => ?_, q⟩
          rw [hdrop] at hw
          rcases List.mem_cons.1 hw with rfl | hw
          · exact ⟨by omega, by omega⟩
          · exact hall w hw
        · exact .inr ⟨he, ⟨w, by rw [hdrop]; exact List.mem_cons_of_mem _ hw, hbad⟩, q⟩
end
end Go.Am
end
