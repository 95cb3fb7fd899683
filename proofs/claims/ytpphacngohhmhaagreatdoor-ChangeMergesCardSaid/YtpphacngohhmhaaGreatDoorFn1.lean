/- Part of the proof: AmC1, AmC2, AmC3, AmC4. -/
import Derived.Test.YtpphacngohhmhaaGreatDoorNet2
set_option linter.unusedSimpArgs false
set_option linter.unusedVariables false
section
namespace Go.Am
open Go Go.RowKit

/-! The law's own small functions. -/
structure CodeOkC (E : Env) : Prop where
  s : ∀ p, (Pos.beq p (Pos.ofNat 4) || (Pos.beq p (Pos.ofNat 12) || Pos.beq p (Pos.ofNat 23))) = false → PT.get p E.sums = none
  s7 : PT.get (Pos.ofNat 12) E.sums = some sNet
  s28 : PT.get (Pos.ofNat 23) E.sums = some sMerge
  f3 : PT.get (Pos.ofNat 3) E.fns = some g3
  f5 : PT.get (Pos.ofNat 5) E.fns = some g5
  f11 : PT.get (Pos.ofNat 11) E.fns = some g11
  f22 : PT.get (Pos.ofNat 22) E.fns = some g22
  f10 : PT.get (Pos.ofNat 10) E.fns = some g10
  f8 : PT.get (Pos.ofNat 8) E.fns = some g8
  f24 : PT.get (Pos.ofNat 24) E.fns = some g24
  f66 : PT.get (Pos.ofNat 66) E.fns = some g66
  f9 : PT.get (Pos.ofNat 9) E.fns = some g9
  f25 : PT.get (Pos.ofNat 25) E.fns = some g25
  f6 : PT.get (Pos.ofNat 6) E.fns = some g6
  f7 : PT.get (Pos.ofNat 7) E.fns = some g7

section
variable {E : Env}
theorem trip_src {H : AHeap} {t : Trp} {op ro : Bool} : srcCells (H.new (.cells (cell3 t) op ro)).2 3 (.sl H.nx 0 1 1 0) = some (1, cell3 t) := by
  have : hloadN (H.new (.cells (cell3 t) op ro)).2 H.nx 0 (Nat.mul 1 3) = some (cell3 t) := by
    unfold hloadN
    rw [get_new]
    rfl
  unfold srcCells
  simp only [this]

theorem changes_loop {N : Nat} {H0 : AHeap} {x : AVal} {ts : List Trp} (hx : TReads N H0 x ts) (hl : ts.length ≤ 1073741824) {b : Pos} (hNb : N ≤ b.toNat) {ro : Option Pos} :
    ∀ (n : Nat) (t : PT AVal) (H : AHeap), (∃ i rest, i + n = ts.length ∧ tget t (Pos.ofNat 0) = x ∧ tget t (Pos.ofNat 4) = .int .i64 (.ofNat i) ∧ tget t (Pos.ofNat 3) = .sl b 0 (ts.take i).length ts.length 0 ∧
      PT.get b H.t = some (.cells (tripVals (ts.take i) ++ rest) false false) ∧ rest.length = 3 * n ∧ b.toNat < H.nx.toNat ∧ Keep N H0 H) →
    W E (.loop g22l6) ro ⟨t, []⟩ H (fun e a H' => e = .exit 0 ∧ a.ds = [] ∧ tget a.t (Pos.ofNat 3) = .sl b 0 ts.length ts.length 0 ∧ PT.get b H'.t = some (.cells (tripVals ts) false false) ∧ b.toNat < H'.nx.toNat ∧ Keep N H0 H') := by
  refine W.loop_inv (Q := fun e a H' => e = .exit 0 ∧ a.ds = [] ∧ tget a.t (Pos.ofNat 3) = .sl b 0 ts.length ts.length 0 ∧ PT.get b H'.t = some (.cells (tripVals ts) false false) ∧ b.toNat < H'.nx.toNat ∧ Keep N H0 H') _ ?_
  rintro n t H ⟨i, rest, hi, h0, h4, h3, hb, hr, hbl, hk⟩
  refine W.seq (W.seq (W.region ?_))
  simp (maxDischargeDepth := 9) only [auW, auC, auT, lget, BEq.rfl, beq_self_eq_true, decide_true, decide_false, reduceCtorEq, Nat.reduceLT, Nat.reduceEqDiff, ↓reduceIte, g22r3, h0, h4, (hx.keep hk (Nat.le_refl _)).fLen]
  refine W.cond_if (p := i < ts.length) (by simp [AOpnd.ev, tget_puts]) (fun hlt => W.skip ?_) (fun hge => W.exit ?_)
  rotate_left
  · have hr0 : rest = [] := List.length_eq_zero_iff.1 (by omega)
    subst hr0
    rw [List.take_of_length_le (by omega)] at h3 hb
    rw [List.append_nil] at hb
    refine ⟨by trivial, by trivial, ?_, hb, hbl, hk⟩
    simp only [tget_puts, Nat.reduceLT, Nat.reduceEqDiff, ↓reduceIte, h3]
  simp only [andThen]
  obtain ⟨bx, ox, e1, e2, _⟩ := (hx.keep hk (Nat.le_refl _)).fIdx hlt
  refine W.seq (W.block (W.region ?_))
  simp (maxDischargeDepth := 9) only [auW, auC, auT, lget, BEq.rfl, beq_self_eq_true, decide_true, decide_false, reduceCtorEq, Nat.reduceLT, Nat.reduceEqDiff, ↓reduceIte, g22r4, h0, h3, h4, e1, fLoadN, e2]
  refine wo_buildSlice (vs := cell3 ts[i]) (by simp [fillA, AOpnd.ev, tget_puts, vcellsO, lput, lover]) ?_
  have hbne : b ≠ H.nx := fun e => by rw [e] at hbl; omega
  have hb2 : PT.get b (H.new (.cells (cell3 ts[i]) false false)).2.t = some (.cells (tripVals (ts.take i) ++ rest) false false) := by
    rw [get_new_other hbne]; exact hb
  refine wo_appendE (append_troom (cap := ts.length) (by' := 24) hb2 (by rw [List.length_take]; omega) (by omega) trip_src) (by simp only [auT, Nat.reduceLT, Nat.reduceEqDiff, ↓reduceIte, h3]) (by simp only [auT, Nat.reduceLT, Nat.reduceEqDiff, ↓reduceIte]) ?_
  simp (maxDischargeDepth := 9) only [auW, auC, auT, lget, BEq.rfl, beq_self_eq_true, decide_true, decide_false, reduceCtorEq, Nat.reduceLT, Nat.reduceEqDiff, ↓reduceIte]
  simp only [andThen, inBlock]
  refine W.region ?_
  simp (maxDischargeDepth := 9) only [auW, auC, auT, lget, BEq.rfl, beq_self_eq_true, decide_true, decide_false, reduceCtorEq, Nat.reduceLT, Nat.reduceEqDiff, ↓reduceIte, g22r5, h4, b_add (show i + 1 ≤ 9223372036854775807 by omega)]
  have htk : ts.take (i + 1) = ts.take i ++ [ts[i]] := by rw [List.take_succ_eq_append_getElem hlt]
  refine ⟨by trivial, n - 1, by omega, i + 1, rest.drop 3, by omega, ?_, ?_, ?_, by rw [htk]; exact get_upd, ?_, ?_, ?_⟩
  · simp only [tget_puts, Nat.reduceLT, Nat.reduceEqDiff, ↓reduceIte, h0]
  · simp only [tget_puts, Nat.reduceLT, Nat.reduceEqDiff, ↓reduceIte]
  · simp only [tget_puts, Nat.reduceLT, Nat.reduceEqDiff, ↓reduceIte]
    simp
    try omega
  · simp only [List.length_drop]; omega
  · show b.toNat < H.nx.succ.toNat
    rw [Pos.toNat_succ]; omega
  · exact hk.trans ((keep_new.mono (by omega)).trans (keep_upd hNb))

theorem changes_ok (C : CodeOkC E) {N : Nat} {H : AHeap} {x : AVal} {ts : List Trp} (hx : TReads N H x ts) (hN : N ≤ H.nx.toNat) (hl : ts.length ≤ 1000000) :
    ∃ v H', CallS E 22 [x] H v H' ∧ (∃ b, v = .sl b 0 ts.length ts.length 0 ∧ PT.get b H'.t = some (.cells (tripVals ts) false false) ∧ H.nx.toNat ≤ b.toNat ∧ b.toNat < H'.nx.toNat) ∧ Keep H.nx.toNat H H' := by
  refine CallS.by (R := fun v H' => (∃ b, v = .sl b 0 ts.length ts.length 0 ∧ PT.get b H'.t = some (.cells (tripVals ts) false false) ∧ H.nx.toNat ≤ b.toNat ∧ b.toNat < H'.nx.toNat) ∧ Keep H.nx.toNat H H') (t0 := tput .l (some (Pos.ofNat 0)) x) (C.s _ rfl) rfl C.f22 rfl ?_
  refine W.seq (W.region ?_)
  simp (maxDischargeDepth := 9) only [auW, auC, auT, lget, BEq.rfl, beq_self_eq_true, decide_true, decide_false, reduceCtorEq, Nat.reduceLT, Nat.reduceEqDiff, ↓reduceIte, g22r0]
  refine W.seq (W.region ?_)
  simp (maxDischargeDepth := 9) only [auW, auC, auT, lget, BEq.rfl, beq_self_eq_true, decide_true, decide_false, reduceCtorEq, Nat.reduceLT, Nat.reduceEqDiff, ↓reduceIte, g22r1, hx.fLen]
  refine wo_mkSlice (n := 0) (c := ts.length) (by simp only [auT, Nat.reduceLT, Nat.reduceEqDiff, ↓reduceIte]; rfl) (by simp only [auT, Nat.reduceLT, Nat.reduceEqDiff, ↓reduceIte]; rfl) (by omega) (by omega) (by omega) ?_
  simp (maxDischargeDepth := 9) only [auW, auC, auT, lget, BEq.rfl, beq_self_eq_true, decide_true, decide_false, reduceCtorEq, Nat.reduceLT, Nat.reduceEqDiff, ↓reduceIte]
  refine W.seq (W.seq (W.region ?_))
  simp (maxDischargeDepth := 9) only [auW, auC, auT, lget, BEq.rfl, beq_self_eq_true, decide_true, decide_false, reduceCtorEq, Nat.reduceLT, Nat.reduceEqDiff, ↓reduceIte, g22r2]
  refine W.block (W.mono (changes_loop (N := H.nx.toNat) (b := H.nx) (hx.mono hN) (by omega) (Nat.le_refl _) ts.length _ _ ⟨0, repl [.int .i64 (.ofNat 0), .int .i64 (.ofNat 0), .bool false] ts.length, by omega, ?_, ?_, ?_, ?_, ?_, ?_, keep_new⟩) ?_)
  · simp only [tget_puts, Nat.reduceLT, Nat.reduceEqDiff, ↓reduceIte]
  · simp only [tget_puts, Nat.reduceLT, Nat.reduceEqDiff, ↓reduceIte]
  · simp only [tget_puts, Nat.reduceLT, Nat.reduceEqDiff, ↓reduceIte]
    rfl
  · exact get_new
  · rw [repl3_length]; omega
  · rw [nx_new]; omega
  rintro e ⟨t', ds⟩ H' ⟨rfl, hd, h3, hb, hbl, hk⟩
  have hd : ds = [] := hd
  subst hd
  have h3 : tget t' (Pos.ofNat 3) = .sl H.nx 0 ts.length ts.length 0 := h3
  simp only [andThen, inBlock, beq_t]
  refine W.seq (W.region ?_)
  simp (maxDischargeDepth := 9) only [auW, auC, auT, lget, BEq.rfl, beq_self_eq_true, decide_true, decide_false, reduceCtorEq, Nat.reduceLT, Nat.reduceEqDiff, ↓reduceIte, g22r7, h3]
  refine W.ret ⟨.inr rfl, rfl, .sl H.nx 0 ts.length ts.length 0, ?_, ⟨H.nx, rfl, hb, Nat.le_refl _, hbl⟩, hk⟩
  simp [resultA, g22, tget_puts]
end
end Go.Am
end

section
namespace Go.Am
open Go Go.RowKit

theorem cell_at {H : AHeap} {b : Pos} {o : Nat} {t : Trp} (h : hloadN H b o 3 = some (cell3 t)) : hload H b (o + 0) = some (.int .i64 t.1) ∧ hload H b (o + 1) = some (.int .i64 t.2.1) ∧ hload H b (o + 2) = some (.bool t.2.2) := by
  have g : ∀ i v, (cell3 t)[i]? = some v → hload H b (o + i) = some v := by
    intro i v hv
    have := hloadN_get h (i := i) hv
    rw [off1] at this
    exact this
  exact ⟨g 0 _ rfl, g 1 _ rfl, g 2 _ rfl⟩
theorem eqb (H : AHeap) (a b : Bool) : eqV H (.one .bool) (.bool a) (.bool b) = some (a == b) := rfl
section
variable {E : Env}
theorem same_loop {N : Nat} {H : AHeap} {x y : AVal} {ts : List Trp} (hx : TReads N H x ts) (hy : TReads N H y ts) (hl : ts.length ≤ 1073741824) {ro : Option Pos} :
    ∀ (n : Nat) (t : PT AVal) (H1 : AHeap), (∃ i, i + n = ts.length ∧ tget t (Pos.ofNat 0) = x ∧ tget t (Pos.ofNat 1) = y ∧ tget t (Pos.ofNat 5) = .int .i64 (.ofNat i) ∧ H1 = H) →
    W E (.loop g11l8) ro ⟨t, []⟩ H1 (fun e a H' => e = .exit 0 ∧ a.ds = [] ∧ H' = H) := by
  refine W.loop_inv (Q := fun e a H' => e = .exit 0 ∧ a.ds = [] ∧ H' = H) _ ?_
  rintro n t H1 ⟨i, hi, h0, h1, h5, rfl⟩
  refine W.seq (W.seq (W.region ?_))
  simp (maxDischargeDepth := 9) only [auW, auC, auT, lget, BEq.rfl, beq_self_eq_true, decide_true, decide_false, reduceCtorEq, Nat.reduceLT, Nat.reduceEqDiff, ↓reduceIte, g11r4, h0, h5, hx.fLen]
  refine W.cond_if (p := i < ts.length) (by simp [AOpnd.ev, tget_puts]) (fun hlt => W.skip ?_) (fun hge => W.exit ?_)
  rotate_left
  · exact ⟨by trivial, by trivial, by trivial⟩
  simp only [andThen]
  obtain ⟨bx, ox, e1, e2, _⟩ := hx.fIdx hlt
  obtain ⟨b', o', f1, f2, _⟩ := hy.fIdx hlt
  obtain ⟨l0, l1, l2⟩ := cell_at e2
  obtain ⟨m0, m1, m2⟩ := cell_at f2
  refine W.seq (W.block (W.seq (W.draw ?_)))
  simp (maxDischargeDepth := 9) only [auD, auC, auT, lget, BEq.rfl, beq_self_eq_true, decide_true, decide_false, reduceCtorEq, Nat.reduceLT, Nat.reduceEqDiff, ↓reduceIte, g11d5, h0, h1, h5, e1, f1, l0, l1, l2, m0, m1, m2, eqb, eq_self]
  simp only [andThen]
  refine W.cond_false (by simp [AOpnd.ev, tget_puts]) (W.skip ?_)
  simp only [andThen, inBlock]
  refine W.region ?_
  simp (maxDischargeDepth := 9) only [auW, auC, auT, lget, BEq.rfl, beq_self_eq_true, decide_true, decide_false, reduceCtorEq, Nat.reduceLT, Nat.reduceEqDiff, ↓reduceIte, g11r7, h5, b_add (show i + 1 ≤ 9223372036854775807 by omega)]
  refine ⟨by trivial, n - 1, by omega, i + 1, by omega, ?_, ?_, ?_, by trivial⟩
  · simp only [tget_puts, Nat.reduceLT, Nat.reduceEqDiff, ↓reduceIte, h0]
  · simp only [tget_puts, Nat.reduceLT, Nat.reduceEqDiff, ↓reduceIte, h1]
  · simp only [tget_puts, Nat.reduceLT, Nat.reduceEqDiff, ↓reduceIte]

theorem same_ok (C : CodeOkC E) {N : Nat} {H : AHeap} {x y : AVal} {ts : List Trp} (hx : TReads N H x ts) (hy : TReads N H y ts) (hl : ts.length ≤ 1073741824) : CallS E 11 [x, y] H (.bool true) H := by
  suffices h : ∃ v H', CallS E 11 [x, y] H v H' ∧ v = .bool true ∧ H' = H by obtain ⟨v, H', h, rfl, rfl⟩ := h; exact h
  refine CallS.by (R := fun v H' => v = .bool true ∧ H' = H) (t0 := tput (tput .l (some (Pos.ofNat 0)) x) (some (Pos.ofNat 1)) y) (C.s _ rfl) rfl C.f11 rfl ?_
  refine W.seq (W.region ?_)
  simp (maxDischargeDepth := 9) only [auW, auC, auT, lget, BEq.rfl, beq_self_eq_true, decide_true, decide_false, reduceCtorEq, Nat.reduceLT, Nat.reduceEqDiff, ↓reduceIte, g11r0]
  refine W.seq (W.seq (W.region ?_))
  simp (maxDischargeDepth := 9) only [auW, auC, auT, lget, BEq.rfl, beq_self_eq_true, decide_true, decide_false, reduceCtorEq, Nat.reduceLT, Nat.reduceEqDiff, ↓reduceIte, g11r1, hx.fLen, hy.fLen]
  refine W.cond_false (by simp [AOpnd.ev, tget_puts]) (W.skip ?_)
  simp only [andThen]
  refine W.seq (W.seq (W.region ?_))
  simp (maxDischargeDepth := 9) only [auW, auC, auT, lget, BEq.rfl, beq_self_eq_true, decide_true, decide_false, reduceCtorEq, Nat.reduceLT, Nat.reduceEqDiff, ↓reduceIte, g11r3]
  refine W.block (W.mono (same_loop hx hy hl ts.length _ _ ⟨0, by omega, ?_, ?_, ?_, rfl⟩) ?_)
  · simp only [tget_puts, Nat.reduceLT, Nat.reduceEqDiff, ↓reduceIte]
  · simp only [tget_puts, Nat.reduceLT, Nat.reduceEqDiff, ↓reduceIte]
  · simp only [tget_puts, Nat.reduceLT, Nat.reduceEqDiff, ↓reduceIte]
  rintro e ⟨t', ds⟩ H' ⟨rfl, hd, rfl⟩
  have hd : ds = [] := hd
  subst hd
  simp only [andThen, inBlock, beq_t]
  refine W.seq (W.region ?_)
  simp (maxDischargeDepth := 9) only [auW, auC, auT, lget, BEq.rfl, beq_self_eq_true, decide_true, decide_false, reduceCtorEq, Nat.reduceLT, Nat.reduceEqDiff, ↓reduceIte, g11r9]
  refine W.ret ⟨.inr rfl, rfl, .bool true, ?_, rfl, rfl⟩
  simp [resultA, g11, tget_puts]
end
end Go.Am
end

section
namespace Go.Am
open Go Go.RowKit

/-- The mark behind what is lent. -/
abbrev mark : Trp := (201, 0, false)
theorem slice_pre3 {t : PT AVal} {Y : AOpnd} {b : Pos} {len cap k : Nat} (hY : Y.ev t = .int .i64 (.ofNat k)) (hk : k ≤ cap) : sliceA t (.sl 3) (.sl b 0 len cap 3) none (some Y) none = some (.sl b 0 k cap 3) := by
  have e1 : Nat.ble k cap = true := ble_t hk
  have e2 : Nat.ble 0 k = true := ble_t (Nat.zero_le _)
  simp only [sliceA, boundOf, hY, natOf, e1, e2, nsub]
  rfl
theorem append_full {H : AHeap} {b : Pos} {ts : List Trp} {x : AVal} {t : Trp} {op ro : Bool} (hb : PT.get b H.t = some (.cells (tripVals ts) op ro)) (hl : ts.length ≤ 1000000) (hx : srcCells H 3 x = some (1, cell3 t)) :
    appendA H 3 24 (.sl b 0 ts.length ts.length 0) x = some (.sl H.nx 0 (ts.length + 1) (ts.length + 1) 3, (H.new (.cells (tripVals (ts ++ [t])) true false)).2) := by
  unfold appendA
  rw [hx]
  have e1 : Nat.ble (Nat.add ts.length 1) ts.length = false := ble_f (by show ts.length < ts.length + 1; omega)
  have e2 : hloadN H b 0 (Nat.mul ts.length 3) = some (tripVals ts) := by
    unfold hloadN
    rw [hb]
    have h3 : Nat.mul ts.length 3 = (tripVals ts).length := by rw [tripVals_length]; rfl
    simp only
    rw [h3, lsub_of (by omega)]
    simp
  have e3 : Nat.ble (Nat.mul (Nat.mul (Nat.add ts.length 1) 2) 24) 281474976710656 = true := ble_t (by show (ts.length + 1) * 2 * 24 ≤ _; omega)
  simp only [e1, e2, e3, tripVals_append]
  rfl
theorem TReads.fLen2 {n : Nat} {H H' : AHeap} {v : AVal} {l : List Trp} (h : TReads n H v l) : Go.Am.fLen H' 1 v = some (.int .i64 (.ofNat l.length)) := by
  rcases h with ⟨rfl, rfl⟩ | ⟨b, o, cap, sz, rfl, h⟩ <;> rfl
section
variable {E : Env}
theorem lent_ok (C : CodeOkC E) {N : Nat} {H : AHeap} {x : AVal} {ts : List Trp} (hx : TReads N H x ts) (hN : N ≤ H.nx.toNat) (hl : ts.length ≤ 1000000) :
    ∃ v H', CallS E 5 [x] H v H' ∧ (∃ b, v = .sl b 0 ts.length (ts.length + 1) 3 ∧ PT.get b H'.t = some (.cells (tripVals (ts ++ [mark])) true false) ∧ H.nx.toNat ≤ b.toNat ∧ b.toNat < H'.nx.toNat) ∧ Keep H.nx.toNat H H' := by
  refine CallS.by (R := fun v H' => (∃ b, v = .sl b 0 ts.length (ts.length + 1) 3 ∧ PT.get b H'.t = some (.cells (tripVals (ts ++ [mark])) true false) ∧ H.nx.toNat ≤ b.toNat ∧ b.toNat < H'.nx.toNat) ∧ Keep H.nx.toNat H H') (t0 := tput .l (some (Pos.ofNat 0)) x) (C.s _ rfl) rfl C.f5 rfl ?_
  refine W.seq (W.region ?_)
  simp (maxDischargeDepth := 9) only [auW, auC, auT, lget, BEq.rfl, beq_self_eq_true, decide_true, decide_false, reduceCtorEq, Nat.reduceLT, Nat.reduceEqDiff, ↓reduceIte, g5r0]
  refine W.seq (W.region ?_)
  obtain ⟨v, H1, hc, ⟨b, rfl, hb, hb0, hb1⟩, hk⟩ := changes_ok C hx hN hl
  simp (maxDischargeDepth := 9) only [auW, auC, auT, lget, BEq.rfl, beq_self_eq_true, decide_true, decide_false, reduceCtorEq, Nat.reduceLT, Nat.reduceEqDiff, ↓reduceIte, g5r1]
  refine wo_callE (hc) (by simp only [auT, Nat.reduceLT, Nat.reduceEqDiff, ↓reduceIte]) ?_
  refine wo_buildE (vs := cell3 mark) (by simp [fillA, AOpnd.ev, tget_puts, vcellsO, lput, lover]) ?_
  refine wo_buildSlice (vs := cell3 mark) (by simp [fillA, AOpnd.ev, tget_puts, vcellsO, lput, lover]) ?_
  have hbne : b ≠ H1.nx := fun e => by rw [e] at hb1; omega
  have hb2 : PT.get b (H1.new (.cells (cell3 mark) false false)).2.t = some (.cells (tripVals ts) false false) := by
    rw [get_new_other hbne]; exact hb
  refine wo_appendE (append_full hb2 hl trip_src) (by simp only [auT, Nat.reduceLT, Nat.reduceEqDiff, ↓reduceIte]) (by simp only [auT, Nat.reduceLT, Nat.reduceEqDiff, ↓reduceIte]) ?_
  simp (maxDischargeDepth := 9) only [auW, auC, auT, lget, BEq.rfl, beq_self_eq_true, decide_true, decide_false, reduceCtorEq, Nat.reduceLT, Nat.reduceEqDiff, ↓reduceIte]
  refine W.seq (W.region ?_)
  have hsl : ∀ t : PT AVal, tget t (Pos.ofNat 11) = .int .i64 (.ofNat ts.length) → sliceA t (.sl 3) (.sl (H1.new (.cells (cell3 mark) false false)).2.nx 0 (ts.length + 1) (ts.length + 1) 3) none (some (.t (Pos.ofNat 11))) none = some (.sl (H1.new (.cells (cell3 mark) false false)).2.nx 0 ts.length (ts.length + 1) 3) := fun t h => slice_pre3 h (by omega)
  simp (maxDischargeDepth := 9) only [auW, auC, auT, lget, BEq.rfl, beq_self_eq_true, decide_true, decide_false, reduceCtorEq, Nat.reduceLT, Nat.reduceEqDiff, ↓reduceIte, g5r2, hx.fLen2, hsl]
  refine W.ret ⟨.inr rfl, rfl, .sl (H1.new (.cells (cell3 mark) false false)).2.nx 0 ts.length (ts.length + 1) 3, ?_, ⟨_, rfl, get_new, ?_, ?_⟩, ?_⟩
  · simp [resultA, g5, tget_puts]
  · show H.nx.toNat ≤ H1.nx.succ.toNat
    have := hk.nx
    rw [Pos.toNat_succ]; omega
  · show H1.nx.succ.toNat < H1.nx.succ.succ.toNat
    simp only [Pos.toNat_succ]; omega
  · have h1 : H.nx.toNat ≤ H1.nx.toNat := hk.nx
    refine hk.trans ((keep_new.mono h1).trans (keep_new.mono ?_))
    show H.nx.toNat ≤ H1.nx.succ.toNat
    rw [Pos.toNat_succ]; omega
end
end Go.Am
end

section
namespace Go.Am
open Go Go.RowKit

/-! The reference's Net, plainly: each change is laid into the rising list. -/
def insR (c : Trp) : List Trp → List Trp
  | [] => [c]
  | x :: l => match ltT x c with
    | true => x :: insR c l
    | false => match eqI x.1 c.1 && eqI x.2.1 c.2.1 with
      | true => c :: l
      | false => c :: x :: l
def refT (m : List Trp) : List Trp → List Trp
  | [] => m
  | t :: l => match eqI t.1 t.2.1 with
    | true => refT m l
    | false => refT (insR (normT t) m) l
theorem refT_snoc : ∀ (l : List Trp) (m : List Trp) (t : Trp), refT m (l ++ [t]) = (match eqI t.1 t.2.1 with | true => refT m l | false => insR (normT t) (refT m l))
  | [], m, t => by simp only [List.nil_append, refT]
  | x :: l, m, t => by
    simp only [List.cons_append, refT]
    cases eqI x.1 x.2.1 with
    | true => simp only; exact refT_snoc l m t
    | false => simp only; exact refT_snoc l _ t
abbrev RisT (l : List Trp) : Prop := l.Pairwise (fun a b => LtK (keyT a) (keyT b))
theorem insR_mem {c : Trp} : ∀ {m : List Trp} {x : Trp}, RisT m → (x ∈ insR c m ↔ x = c ∨ (x ∈ m ∧ keyT x ≠ keyT c))
  | [], x, _ => by simp [insR]
  | y :: m, x, h => by
    obtain ⟨h1, h2⟩ := List.pairwise_cons.1 h
    simp only [insR]
    cases hlt : ltT y c with
    | true =>
      have hlt := (ltT_iff y c).1 hlt
      have hne : keyT y ≠ keyT c := fun e => by rw [e] at hlt; exact LtK.irrefl _ hlt
      simp only [List.mem_cons, insR_mem h2]
      constructor
      · rintro (rfl | rfl | ⟨h3, h4⟩)
        · exact .inr ⟨.inl rfl, hne⟩
        · exact .inl rfl
        · exact .inr ⟨.inr h3, h4⟩
      · rintro (rfl | ⟨rfl | h3, h4⟩)
        · exact .inr (.inl rfl)
        · exact .inl rfl
        · exact .inr (.inr ⟨h3, h4⟩)
    | false =>
      have hnl : ¬ LtK (keyT y) (keyT c) := fun hh => by rw [(ltT_iff y c).2 hh] at hlt; cases hlt
      simp only
      cases he : (eqI y.1 c.1 && eqI y.2.1 c.2.1) with
      | true =>
        have hk := (eqT_iff y c).1 he
        simp only [List.mem_cons]
        constructor
        · rintro (rfl | h3)
          · exact .inl rfl
          · have := h1 x h3
            rw [hk] at this
            exact .inr ⟨.inr h3, fun e => by rw [e] at this; exact LtK.irrefl _ this⟩
        · rintro (rfl | ⟨rfl | h3, h4⟩)
          · exact .inl rfl
          · exact absurd hk h4
          · exact .inr h3
      | false =>
        have hk : keyT y ≠ keyT c := fun e => by rw [(eqT_iff y c).2 e] at he; cases he
        have hcy : LtK (keyT c) (keyT y) := by
          rcases LtK.total (keyT c) (keyT y) with h | h | h
          · exact h
          · exact absurd h.symm hk
          · exact absurd h hnl
        simp only [List.mem_cons]
        constructor
        · rintro (rfl | rfl | h3)
          · exact .inl rfl
          · exact .inr ⟨.inl rfl, hk⟩
          · have := hcy.trans (h1 x h3)
            exact .inr ⟨.inr h3, fun e => by rw [e] at this; exact LtK.irrefl _ this⟩
        · rintro (rfl | ⟨rfl | h3, h4⟩)
          · exact .inl rfl
          · exact .inr (.inl rfl)
          · exact .inr (.inr h3)
theorem insR_ris {c : Trp} : ∀ {m : List Trp}, RisT m → RisT (insR c m)
  | [], _ => by simp [insR]
  | y :: m, h => by
    obtain ⟨h1, h2⟩ := List.pairwise_cons.1 h
    have hmem := @insR_mem c m
    simp only [insR]
    cases hlt : ltT y c with
    | true =>
      have hlt := (ltT_iff y c).1 hlt
      refine List.pairwise_cons.2 ⟨fun x hx => ?_, insR_ris h2⟩
      rcases (hmem h2).1 hx with rfl | ⟨hx, _⟩
      · exact hlt
      · exact h1 x hx
    | false =>
      have hnl : ¬ LtK (keyT y) (keyT c) := fun hh => by rw [(ltT_iff y c).2 hh] at hlt; cases hlt
      simp only
      cases he : (eqI y.1 c.1 && eqI y.2.1 c.2.1) with
      | true =>
        have hk := (eqT_iff y c).1 he
        refine List.pairwise_cons.2 ⟨fun x hx => ?_, h2⟩
        rw [← hk]
        exact h1 x hx
      | false =>
        have hk : keyT y ≠ keyT c := fun e => by rw [(eqT_iff y c).2 e] at he; cases he
        have hcy : LtK (keyT c) (keyT y) := by
          rcases LtK.total (keyT c) (keyT y) with h | h | h
          · exact h
          · exact absurd h.symm hk
          · exact absurd h hnl
        refine List.pairwise_cons.2 ⟨fun x hx => ?_, h⟩
        rcases List.mem_cons.1 hx with rfl | hx
        · exact hcy
        · exact hcy.trans (h1 x hx)
theorem putT_mem {c : Trp} : ∀ {m : List Trp} {x : Trp}, (m.map keyT).Nodup → (x ∈ putT c m ↔ x = c ∨ (x ∈ m ∧ keyT x ≠ keyT c))
  | [], x, _ => by simp [putT]
  | y :: m, x, h => by
    simp only [List.map_cons, List.nodup_cons] at h
    simp only [putT]
    cases he : (eqI c.1 y.1 && eqI c.2.1 y.2.1) with
    | true =>
      have hk := (eqT_iff c y).1 he
      simp only [List.mem_cons]
      constructor
      · rintro (rfl | h3)
        · exact .inl rfl
        · exact .inr ⟨.inr h3, fun e => h.1 (by rw [← hk, ← e]; exact List.mem_map.2 ⟨x, h3, rfl⟩)⟩
      · rintro (rfl | ⟨rfl | h3, h4⟩)
        · exact .inl rfl
        · exact absurd hk.symm h4
        · exact .inr h3
    | false =>
      have hk : keyT y ≠ keyT c := fun e => by rw [(eqT_iff c y).2 e.symm] at he; cases he
      simp only [List.mem_cons, putT_mem h.2]
      constructor
      · rintro (rfl | rfl | ⟨h3, h4⟩)
        · exact .inr ⟨.inl rfl, hk⟩
        · exact .inl rfl
        · exact .inr ⟨.inr h3, h4⟩
      · rintro (rfl | ⟨rfl | h3, h4⟩)
        · exact .inr (.inl rfl)
        · exact .inl rfl
        · exact .inr (.inr ⟨h3, h4⟩)
/-- The two ways lead to one list. -/
theorem refT_same : ∀ (l : List Trp) (a b : List Trp), RisT a → (b.map keyT).Nodup → (∀ x, x ∈ a ↔ x ∈ b) → RisT (refT a l) ∧ (∀ x, x ∈ refT a l ↔ x ∈ lastT b l)
  | [], a, b, h1, h2, h3 => ⟨h1, h3⟩
  | t :: l, a, b, h1, h2, h3 => by
    simp only [refT, lastT]
    cases eqI t.1 t.2.1 with
    | true => exact refT_same l a b h1 h2 h3
    | false =>
      refine refT_same l _ _ (insR_ris h1) (putT_nodup h2) fun x => ?_
      rw [insR_mem h1, putT_mem h2, h3]
theorem refT_netT (ts : List Trp) : refT [] ts = netT ts := by
  obtain ⟨h1, h2⟩ := refT_same ts [] [] List.Pairwise.nil (by simp) (by simp)
  have hn : ((lastT [] ts).map keyT).Nodup := lastT_nodup (by simp)
  have nd : ∀ {l : List Trp}, (l.map keyT).Nodup → l.Nodup := fun h => (List.pairwise_map.1 h).imp fun hne e => hne (by rw [e])
  have hp : (refT [] ts).Perm (lastT [] ts) := (List.perm_ext_iff_of_nodup (nd (nodup_of_rising h1)) (nd hn)).2 h2
  exact List.Perm.eq_of_pairwise (le := fun a b => LtK (keyT a) (keyT b)) (fun x y _ _ g1 g2 => absurd (g1.trans g2) (LtK.irrefl _)) h1 (sortT_sorted hn) (hp.trans (sortT_perm _).symm)
end Go.Am
end
