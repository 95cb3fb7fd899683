/- Part of the proof: AmC1, AmC2, AmC3. -/
import Derived.Test.YthfacindpgoedaaGreatDoorNet2
set_option linter.unusedSimpArgs false
set_option linter.unusedVariables false
section
namespace Go.Am
open Go Go.RowKit

/-! The law's own small functions. -/
structure CodeOkC (E : Env) : Prop where
  s : ∀ p, (Pos.beq p (Pos.ofNat 4) || Pos.beq p (Pos.ofNat 7)) = false → PT.get p E.sums = none
  f3 : PT.get (Pos.ofNat 3) E.fns = some g3
  f5 : PT.get (Pos.ofNat 5) E.fns = some g5
  f6 : PT.get (Pos.ofNat 6) E.fns = some g6
  f8 : PT.get (Pos.ofNat 8) E.fns = some g8
  f9 : PT.get (Pos.ofNat 9) E.fns = some g9
  f10 : PT.get (Pos.ofNat 10) E.fns = some g10
  f27 : PT.get (Pos.ofNat 27) E.fns = some g27

section
variable {E : Env}
theorem trip_src {H : AHeap} {t : Trp} {op ro : Bool} : srcCells (H.new (.cells (cell3 t) op ro)).2 3 (.sl H.nx 0 1 1 0) = some (1, cell3 t) := by
  have : hloadN (H.new (.cells (cell3 t) op ro)).2 H.nx 0 (Nat.mul 1 3) = some (cell3 t) := by
    unfold hloadN
    rw [get_new]
    rfl
  unfold srcCells
  simp only [this]

theorem changes_loop {N : Nat} {H0 : AHeap} {x : AVal} {ts : List Trp} (hx : TReads N H0 x ts) (hl : ts.length ≤ 1073741824) {b : Pos} (hNb : N ≤ b.toNat) {ro : Option Pos} :
    ∀ (n : Nat) (t : PT AVal) (H : AHeap), (∃ i rest, i + n = ts.length ∧ tget t (Pos.ofNat 0) = x ∧ tget t (Pos.ofNat 4) = .int .i64 (.ofNat i) ∧ tget t (Pos.ofNat 3) = .sl b 0 (ts.take i).length ts.length 0 ∧
      PT.get b H.t = some (.cells (tripVals (ts.take i) ++ rest) false false) ∧ rest.length = 3 * n ∧ b.toNat < H.nx.toNat ∧ Keep N H0 H) →
    W E (.loop g9l6) ro ⟨t, []⟩ H (fun e a H' => e = .exit 0 ∧ a.ds = [] ∧ tget a.t (Pos.ofNat 3) = .sl b 0 ts.length ts.length 0 ∧ PT.get b H'.t = some (.cells (tripVals ts) false false) ∧ b.toNat < H'.nx.toNat ∧ Keep N H0 H') := by
  refine W.loop_inv (Q := fun e a H' => e = .exit 0 ∧ a.ds = [] ∧ tget a.t (Pos.ofNat 3) = .sl b 0 ts.length ts.length 0 ∧ PT.get b H'.t = some (.cells (tripVals ts) false false) ∧ b.toNat < H'.nx.toNat ∧ Keep N H0 H') _ ?_
  rintro n t H ⟨i, rest, hi, h0, h4, h3, hb, hr, hbl, hk⟩
  refine W.seq (W.seq (W.region ?_))
  simp (maxDischargeDepth := 9) only [auW, auC, auT, lget, BEq.rfl, beq_self_eq_true, decide_true, decide_false, reduceCtorEq, Nat.reduceLT, Nat.reduceEqDiff, ↓reduceIte, g9r3, h0, h4, (hx.keep hk (Nat.le_refl _)).fLen]
  refine W.cond_if (p := i < ts.length) (by simp [AOpnd.ev, tget_puts]) (fun hlt => W.skip ?_) (fun hge => W.exit ?_)
  rotate_left
  · have hr0 : rest = [] := List.length_eq_zero_iff.1 (by omega)
    subst hr0
    rw [List.take_of_length_le (by omega)] at h3 hb
    rw [List.append_nil] at hb
    refine ⟨by trivial, by trivial, ?_, hb, hbl, hk⟩
    simp only [tget_puts, Nat.reduceLT, Nat.reduceEqDiff, ↓reduceIte, h3]
  simp only [andThen]
  obtain ⟨bx, ox, e1, e2, _⟩ := (hx.keep hk (Nat.le_refl _)).fIdx hlt
  refine W.seq (W.block (W.region ?_))
  simp (maxDischargeDepth := 9) only [auW, auC, auT, lget, BEq.rfl, beq_self_eq_true, decide_true, decide_false, reduceCtorEq, Nat.reduceLT, Nat.reduceEqDiff, ↓reduceIte, g9r4, h0, h3, h4, e1, fLoadN, e2]
  refine wo_buildSlice (vs := cell3 ts[i]) (by simp [fillA, AOpnd.ev, tget_puts, vcellsO, lput, lover]) ?_
  have hbne : b ≠ H.nx := fun e => by rw [e] at hbl; omega
  have hb2 : PT.get b (H.new (.cells (cell3 ts[i]) false false)).2.t = some (.cells (tripVals (ts.take i) ++ rest) false false) := by
    rw [get_new_other hbne]; exact hb
  refine wo_appendE (append_troom (cap := ts.length) (by' := 24) hb2 (by rw [List.length_take]; omega) (by omega) trip_src) (by simp only [auT, Nat.reduceLT, Nat.reduceEqDiff, ↓reduceIte, h3]) (by simp only [auT, Nat.reduceLT, Nat.reduceEqDiff, ↓reduceIte]) ?_
  simp (maxDischargeDepth := 9) only [auW, auC, auT, lget, BEq.rfl, beq_self_eq_true, decide_true, decide_false, reduceCtorEq, Nat.reduceLT, Nat.reduceEqDiff, ↓reduceIte]
  simp only [andThen, inBlock]
  refine W.region ?_
  simp (maxDischargeDepth := 9) only [auW, auC, auT, lget, BEq.rfl, beq_self_eq_true, decide_true, decide_false, reduceCtorEq, Nat.reduceLT, Nat.reduceEqDiff, ↓reduceIte, g9r5, h4, b_add (show i + 1 ≤ 9223372036854775807 by omega)]
  have htk : ts.take (i + 1) = ts.take i ++ [ts[i]] := by rw [List.take_succ_eq_append_getElem hlt]
  refine ⟨by trivial, n - 1, by omega, i + 1, rest.drop 3, by omega, ?_, ?_, ?_, by rw [htk]; exact get_upd, ?_, ?_, ?_⟩
  · simp only [tget_puts, Nat.reduceLT, Nat.reduceEqDiff, ↓reduceIte, h0]
  · simp only [tget_puts, Nat.reduceLT, Nat.reduceEqDiff, ↓reduceIte]
  · simp only [tget_puts, Nat.reduceLT, Nat.reduceEqDiff, ↓reduceIte]
    simp
    try omega
  · simp only [List.length_drop]; omega
  · show b.toNat < H.nx.succ.toNat
    rw [Pos.toNat_succ]; omega
  · exact hk.trans ((keep_new.mono (by omega)).trans (keep_upd hNb))

theorem changes_ok (C : CodeOkC E) {N : Nat} {H : AHeap} {x : AVal} {ts : List Trp} (hx : TReads N H x ts) (hN : N ≤ H.nx.toNat) (hl : ts.length ≤ 1000000) :
    ∃ v H', CallS E 9 [x] H v H' ∧ (∃ b, v = .sl b 0 ts.length ts.length 0 ∧ PT.get b H'.t = some (.cells (tripVals ts) false false) ∧ H.nx.toNat ≤ b.toNat ∧ b.toNat < H'.nx.toNat) ∧ Keep H.nx.toNat H H' := by
  refine CallS.by (R := fun v H' => (∃ b, v = .sl b 0 ts.length ts.length 0 ∧ PT.get b H'.t = some (.cells (tripVals ts) false false) ∧ H.nx.toNat ≤ b.toNat ∧ b.toNat < H'.nx.toNat) ∧ Keep H.nx.toNat H H') (t0 := tput .l (some (Pos.ofNat 0)) x) (C.s _ rfl) rfl C.f9 rfl ?_
  refine W.seq (W.region ?_)
  simp (maxDischargeDepth := 9) only [auW, auC, auT, lget, BEq.rfl, beq_self_eq_true, decide_true, decide_false, reduceCtorEq, Nat.reduceLT, Nat.reduceEqDiff, ↓reduceIte, g9r0]
  refine W.seq (W.region ?_)
  simp (maxDischargeDepth := 9) only [auW, auC, auT, lget, BEq.rfl, beq_self_eq_true, decide_true, decide_false, reduceCtorEq, Nat.reduceLT, Nat.reduceEqDiff, ↓reduceIte, g9r1, hx.fLen]
  refine wo_mkSlice (n := 0) (c := ts.length) (by simp only [auT, Nat.reduceLT, Nat.reduceEqDiff, ↓reduceIte]; rfl) (by simp only [auT, Nat.reduceLT, Nat.reduceEqDiff, ↓reduceIte]; rfl) (by omega) (by omega) (by omega) ?_
  simp (maxDischargeDepth := 9) only [auW, auC, auT, lget, BEq.rfl, beq_self_eq_true, decide_true, decide_false, reduceCtorEq, Nat.reduceLT, Nat.reduceEqDiff, ↓reduceIte]
  refine W.seq (W.seq (W.region ?_))
  simp (maxDischargeDepth := 9) only [auW, auC, auT, lget, BEq.rfl, beq_self_eq_true, decide_true, decide_false, reduceCtorEq, Nat.reduceLT, Nat.reduceEqDiff, ↓reduceIte, g9r2]
  refine W.block (W.mono (changes_loop (N := H.nx.toNat) (b := H.nx) (hx.mono hN) (by omega) (Nat.le_refl _) ts.length _ _ ⟨0, repl [.int .i64 (.ofNat 0), .int .i64 (.ofNat 0), .bool false] ts.length, by omega, ?_, ?_, ?_, ?_, ?_, ?_, keep_new⟩) ?_)
  · simp only [tget_puts, Nat.reduceLT, Nat.reduceEqDiff, ↓reduceIte]
  · simp only [tget_puts, Nat.reduceLT, Nat.reduceEqDiff, ↓reduceIte]
  · simp only [tget_puts, Nat.reduceLT, Nat.reduceEqDiff, ↓reduceIte]
    rfl
  · exact get_new
  · rw [repl3_length]; omega
  · rw [nx_new]; omega
  rintro e ⟨t', ds⟩ H' ⟨rfl, hd, h3, hb, hbl, hk⟩
  have hd : ds = [] := hd
  subst hd
  have h3 : tget t' (Pos.ofNat 3) = .sl H.nx 0 ts.length ts.length 0 := h3
  simp only [andThen, inBlock, beq_t]
  refine W.seq (W.region ?_)
  simp (maxDischargeDepth := 9) only [auW, auC, auT, lget, BEq.rfl, beq_self_eq_true, decide_true, decide_false, reduceCtorEq, Nat.reduceLT, Nat.reduceEqDiff, ↓reduceIte, g9r7, h3]
  refine W.ret ⟨.inr rfl, rfl, .sl H.nx 0 ts.length ts.length 0, ?_, ⟨H.nx, rfl, hb, Nat.le_refl _, hbl⟩, hk⟩
  simp [resultA, g9, tget_puts]
end
end Go.Am
end

section
namespace Go.Am
open Go Go.RowKit

theorem cell_at {H : AHeap} {b : Pos} {o : Nat} {t : Trp} (h : hloadN H b o 3 = some (cell3 t)) : hload H b (o + 0) = some (.int .i64 t.1) ∧ hload H b (o + 1) = some (.int .i64 t.2.1) ∧ hload H b (o + 2) = some (.bool t.2.2) := by
  have g : ∀ i v, (cell3 t)[i]? = some v → hload H b (o + i) = some v := by
    intro i v hv
    have := hloadN_get h (i := i) hv
    rw [off1] at this
    exact this
  exact ⟨g 0 _ rfl, g 1 _ rfl, g 2 _ rfl⟩
theorem eqb (H : AHeap) (a b : Bool) : eqV H (.one .bool) (.bool a) (.bool b) = some (a == b) := rfl
section
variable {E : Env}
theorem same_loop {N : Nat} {H : AHeap} {x y : AVal} {ts : List Trp} (hx : TReads N H x ts) (hy : TReads N H y ts) (hl : ts.length ≤ 1073741824) {ro : Option Pos} :
    ∀ (n : Nat) (t : PT AVal) (H1 : AHeap), (∃ i, i + n = ts.length ∧ tget t (Pos.ofNat 0) = x ∧ tget t (Pos.ofNat 1) = y ∧ tget t (Pos.ofNat 5) = .int .i64 (.ofNat i) ∧ H1 = H) →
    W E (.loop g6l8) ro ⟨t, []⟩ H1 (fun e a H' => e = .exit 0 ∧ a.ds = [] ∧ H' = H) := by
  refine W.loop_inv (Q := fun e a H' => e = .exit 0 ∧ a.ds = [] ∧ H' = H) _ ?_
  rintro n t H1 ⟨i, hi, h0, h1, h5, rfl⟩
  refine W.seq (W.seq (W.region ?_))
  simp (maxDischargeDepth := 9) only [auW, auC, auT, lget, BEq.rfl, beq_self_eq_true, decide_true, decide_false, reduceCtorEq, Nat.reduceLT, Nat.reduceEqDiff, ↓reduceIte, g6r4, h0, h5, hx.fLen]
  refine W.cond_if (p := i < ts.length) (by simp [AOpnd.ev, tget_puts]) (fun hlt => W.skip ?_) (fun hge => W.exit ?_)
  rotate_left
  · exact ⟨by trivial, by trivial, by trivial⟩
  simp only [andThen]
  obtain ⟨bx, ox, e1, e2, _⟩ := hx.fIdx hlt
  obtain ⟨b', o', f1, f2, _⟩ := hy.fIdx hlt
  obtain ⟨l0, l1, l2⟩ := cell_at e2
  obtain ⟨m0, m1, m2⟩ := cell_at f2
  refine W.seq (W.block (W.seq (W.draw ?_)))
  simp (maxDischargeDepth := 9) only [auD, auC, auT, lget, BEq.rfl, beq_self_eq_true, decide_true, decide_false, reduceCtorEq, Nat.reduceLT, Nat.reduceEqDiff, ↓reduceIte, g6d5, h0, h1, h5, e1, f1, l0, l1, l2, m0, m1, m2, eqb, eq_self]
  simp only [andThen]
  refine W.cond_false (by simp [AOpnd.ev, tget_puts]) (W.skip ?_)
  simp only [andThen, inBlock]
  refine W.region ?_
  simp (maxDischargeDepth := 9) only [auW, auC, auT, lget, BEq.rfl, beq_self_eq_true, decide_true, decide_false, reduceCtorEq, Nat.reduceLT, Nat.reduceEqDiff, ↓reduceIte, g6r7, h5, b_add (show i + 1 ≤ 9223372036854775807 by omega)]
  refine ⟨by trivial, n - 1, by omega, i + 1, by omega, ?_, ?_, ?_, by trivial⟩
  · simp only [tget_puts, Nat.reduceLT, Nat.reduceEqDiff, ↓reduceIte, h0]
  · simp only [tget_puts, Nat.reduceLT, Nat.reduceEqDiff, ↓reduceIte, h1]
  · simp only [tget_puts, Nat.reduceLT, Nat.reduceEqDiff, ↓reduceIte]

theorem same_ok (C : CodeOkC E) {N : Nat} {H : AHeap} {x y : AVal} {ts : List Trp} (hx : TReads N H x ts) (hy : TReads N H y ts) (hl : ts.length ≤ 1073741824) : CallS E 6 [x, y] H (.bool true) H := by
  suffices h : ∃ v H', CallS E 6 [x, y] H v H' ∧ v = .bool true ∧ H' = H by obtain ⟨v, H', h, rfl, rfl⟩ := h; exact h
  refine CallS.by (R := fun v H' => v = .bool true ∧ H' = H) (t0 := tput (tput .l (some (Pos.ofNat 0)) x) (some (Pos.ofNat 1)) y) (C.s _ rfl) rfl C.f6 rfl ?_
  refine W.seq (W.region ?_)
  simp (maxDischargeDepth := 9) only [auW, auC, auT, lget, BEq.rfl, beq_self_eq_true, decide_true, decide_false, reduceCtorEq, Nat.reduceLT, Nat.reduceEqDiff, ↓reduceIte, g6r0]
  refine W.seq (W.seq (W.region ?_))
  simp (maxDischargeDepth := 9) only [auW, auC, auT, lget, BEq.rfl, beq_self_eq_true, decide_true, decide_false, reduceCtorEq, Nat.reduceLT, Nat.reduceEqDiff, ↓reduceIte, g6r1, hx.fLen, hy.fLen]
  refine W.cond_false (by simp [AOpnd.ev, tget_puts]) (W.skip ?_)
  simp only [andThen]
  refine W.seq (W.seq (W.region ?_))
  simp (maxDischargeDepth := 9) only [auW, auC, auT, lget, BEq.rfl, beq_self_eq_true, decide_true, decide_false, reduceCtorEq, Nat.reduceLT, Nat.reduceEqDiff, ↓reduceIte, g6r3]
  refine W.block (W.mono (same_loop hx hy hl ts.length _ _ ⟨0, by omega, ?_, ?_, ?_, rfl⟩) ?_)
  · simp only [tget_puts, Nat.reduceLT, Nat.reduceEqDiff, ↓reduceIte]
  · simp only [tget_puts, Nat.reduceLT, Nat.reduceEqDiff, ↓reduceIte]
  · simp only [tget_puts, Nat.reduceLT, Nat.reduceEqDiff, ↓reduceIte]
  rintro e ⟨t', ds⟩ H' ⟨rfl, hd, rfl⟩
  have hd : ds = [] := hd
  subst hd
  simp only [andThen, inBlock, beq_t]
  refine W.seq (W.region ?_)
  simp (maxDischargeDepth := 9) only [auW, auC, auT, lget, BEq.rfl, beq_self_eq_true, decide_true, decide_false, reduceCtorEq, Nat.reduceLT, Nat.reduceEqDiff, ↓reduceIte, g6r9]
  refine W.ret ⟨.inr rfl, rfl, .bool true, ?_, rfl, rfl⟩
  simp [resultA, g6, tget_puts]
end
end Go.Am
end

section
namespace Go.Am
open Go Go.RowKit

/-- The mark behind what is lent. -/
abbrev mark : Trp := (201, 0, false)
theorem slice_pre3 {t : PT AVal} {Y : AOpnd} {b : Pos} {len cap k : Nat} (hY : Y.ev t = .int .i64 (.ofNat k)) (hk : k ≤ cap) : sliceA t (.sl 3) (.sl b 0 len cap 3) none (some Y) none = some (.sl b 0 k cap 3) := by
  have e1 : Nat.ble k cap = true := ble_t hk
  have e2 : Nat.ble 0 k = true := ble_t (Nat.zero_le _)
  simp only [sliceA, boundOf, hY, natOf, e1, e2, nsub]
  rfl
theorem append_full {H : AHeap} {b : Pos} {ts : List Trp} {x : AVal} {t : Trp} {op ro : Bool} (hb : PT.get b H.t = some (.cells (tripVals ts) op ro)) (hl : ts.length ≤ 1000000) (hx : srcCells H 3 x = some (1, cell3 t)) :
    appendA H 3 24 (.sl b 0 ts.length ts.length 0) x = some (.sl H.nx 0 (ts.length + 1) (ts.length + 1) 3, (H.new (.cells (tripVals (ts ++ [t])) true false)).2) := by
  unfold appendA
  rw [hx]
  have e1 : Nat.ble (Nat.add ts.length 1) ts.length = false := ble_f (by show ts.length < ts.length + 1; omega)
  have e2 : hloadN H b 0 (Nat.mul ts.length 3) = some (tripVals ts) := by
    unfold hloadN
    rw [hb]
    have h3 : Nat.mul ts.length 3 = (tripVals ts).length := by rw [tripVals_length]; rfl
    simp only
    rw [h3, lsub_of (by omega)]
    simp
  have e3 : Nat.ble (Nat.mul (Nat.mul (Nat.add ts.length 1) 2) 24) 281474976710656 = true := ble_t (by show (ts.length + 1) * 2 * 24 ≤ _; omega)
  simp only [e1, e2, e3, tripVals_append]
  rfl
theorem TReads.fLen2 {n : Nat} {H H' : AHeap} {v : AVal} {l : List Trp} (h : TReads n H v l) : Go.Am.fLen H' 1 v = some (.int .i64 (.ofNat l.length)) := by
  rcases h with ⟨rfl, rfl⟩ | ⟨b, o, cap, sz, rfl, h⟩ <;> rfl
section
variable {E : Env}
theorem lent_ok (C : CodeOkC E) {N : Nat} {H : AHeap} {x : AVal} {ts : List Trp} (hx : TReads N H x ts) (hN : N ≤ H.nx.toNat) (hl : ts.length ≤ 1000000) :
    ∃ v H', CallS E 5 [x] H v H' ∧ (∃ b, v = .sl b 0 ts.length (ts.length + 1) 3 ∧ PT.get b H'.t = some (.cells (tripVals (ts ++ [mark])) true false) ∧ H.nx.toNat ≤ b.toNat ∧ b.toNat < H'.nx.toNat) ∧ Keep H.nx.toNat H H' := by
  refine CallS.by (R := fun v H' => (∃ b, v = .sl b 0 ts.length (ts.length + 1) 3 ∧ PT.get b H'.t = some (.cells (tripVals (ts ++ [mark])) true false) ∧ H.nx.toNat ≤ b.toNat ∧ b.toNat < H'.nx.toNat) ∧ Keep H.nx.toNat H H') (t0 := tput .l (some (Pos.ofNat 0)) x) (C.s _ rfl) rfl C.f5 rfl ?_
  refine W.seq (W.region ?_)
  simp (maxDischargeDepth := 9) only [auW, auC, auT, lget, BEq.rfl, beq_self_eq_true, decide_true, decide_false, reduceCtorEq, Nat.reduceLT, Nat.reduceEqDiff, ↓reduceIte, g5r0]
  refine W.seq (W.region ?_)
  obtain ⟨v, H1, hc, ⟨b, rfl, hb, hb0, hb1⟩, hk⟩ := changes_ok C hx hN hl
  simp (maxDischargeDepth := 9) only [auW, auC, auT, lget, BEq.rfl, beq_self_eq_true, decide_true, decide_false, reduceCtorEq, Nat.reduceLT, Nat.reduceEqDiff, ↓reduceIte, g5r1]
  refine wo_callE (hc) (by simp only [auT, Nat.reduceLT, Nat.reduceEqDiff, ↓reduceIte]) ?_
  refine wo_buildE (vs := cell3 mark) (by simp [fillA, AOpnd.ev, tget_puts, vcellsO, lput, lover]) ?_
  refine wo_buildSlice (vs := cell3 mark) (by simp [fillA, AOpnd.ev, tget_puts, vcellsO, lput, lover]) ?_
  have hbne : b ≠ H1.nx := fun e => by rw [e] at hb1; omega
  have hb2 : PT.get b (H1.new (.cells (cell3 mark) false false)).2.t = some (.cells (tripVals ts) false false) := by
    rw [get_new_other hbne]; exact hb
  refine wo_appendE (append_full hb2 hl trip_src) (by simp only [auT, Nat.reduceLT, Nat.reduceEqDiff, ↓reduceIte]) (by simp only [auT, Nat.reduceLT, Nat.reduceEqDiff, ↓reduceIte]) ?_
  simp (maxDischargeDepth := 9) only [auW, auC, auT, lget, BEq.rfl, beq_self_eq_true, decide_true, decide_false, reduceCtorEq, Nat.reduceLT, Nat.reduceEqDiff, ↓reduceIte]
  refine W.seq (W.region ?_)
  have hsl : ∀ t : PT AVal, tget t (Pos.ofNat 11) = .int .i64 (.ofNat ts.length) → sliceA t (.sl 3) (.sl (H1.new (.cells (cell3 mark) false false)).2.nx 0 (ts.length + 1) (ts.length + 1) 3) none (some (.t (Pos.ofNat 11))) none = some (.sl (H1.new (.cells (cell3 mark) false false)).2.nx 0 ts.length (ts.length + 1) 3) := fun t h => slice_pre3 h (by omega)
  simp (maxDischargeDepth := 9) only [auW, auC, auT, lget, BEq.rfl, beq_self_eq_true, decide_true, decide_false, reduceCtorEq, Nat.reduceLT, Nat.reduceEqDiff, ↓reduceIte, g5r2, hx.fLen2, hsl]
  refine W.ret ⟨.inr rfl, rfl, .sl (H1.new (.cells (cell3 mark) false false)).2.nx 0 ts.length (ts.length + 1) 3, ?_, ⟨_, rfl, get_new, ?_, ?_⟩, ?_⟩
  · simp [resultA, g5, tget_puts]
  · show H.nx.toNat ≤ H1.nx.succ.toNat
    have := hk.nx
    rw [Pos.toNat_succ]; omega
  · show H1.nx.succ.toNat < H1.nx.succ.succ.toNat
    simp only [Pos.toNat_succ]; omega
  · have h1 : H.nx.toNat ≤ H1.nx.toNat := hk.nx
    refine hk.trans ((keep_new.mono h1).trans (keep_new.mono ?_))
    show H.nx.toNat ≤ H1.nx.succ.toNat
    rw [Pos.toNat_succ]; omega
end
end Go.Am
end
