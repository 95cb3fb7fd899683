/- Part of the proof: AmM6, AmM7, AmM8, AmM9. -/
import Derived.Test.YtpphacngohhmhaaGreatDoorFn3
set_option linter.unusedSimpArgs false
set_option linter.unusedVariables false
section
namespace Go.Am
open Go Go.RowKit
abbrev CodeOkM := CodeOkC
section
variable {E : Env}
theorem intVals_at : ∀ {l : List Int} {i : Nat} (h : i < l.length), (intVals l)[i]? = some (.int .i64 l[i])
  | x :: l, 0, _ => rfl
  | x :: l, i + 1, h => intVals_at (l := l) (by simpa using h)
theorem IReads.fIdx {N : Nat} {H : AHeap} {x : AVal} {l : List Int} (hx : Reads N H x (intVals l)) {i : Nat} (hi : i < l.length) : ∃ b o, fIdxS 1 x (.int .i64 (.ofNat i)) = some (.ptr b o) ∧ hload H b o = some (.int .i64 l[i]) := by
  obtain ⟨b, o, e1, e2⟩ := hx.fIdx' (i := i) (by rw [intVals_length]; exact hi)
  refine ⟨b, o, e1, ?_⟩
  rw [e2]
  have := intVals_at hi
  obtain ⟨h1, h2⟩ := List.getElem?_eq_some_iff.1 this
  rw [h2]
theorem IReads.fLen {N : Nat} {H : AHeap} {x : AVal} {l : List Int} (hx : Reads N H x (intVals l)) : fLen H 1 x = some (.int .i64 (.ofNat l.length)) := by
  have := hx.fLen'
  rw [intVals_length] at this
  exact this
theorem ints_loop {N : Nat} {H0 : AHeap} {x : AVal} {l : List Int} (hx : Reads N H0 x (intVals l)) (hl : l.length ≤ 1000000) {b : Pos} (hNb : N ≤ b.toNat) {ro : Option Pos} :
    ∀ (n : Nat) (t : PT AVal) (H : AHeap), (∃ i, i + n = l.length ∧ tget t (Pos.ofNat 0) = x ∧ tget t (Pos.ofNat 4) = .int .i64 (.ofNat i) ∧ tget t (Pos.ofNat 3) = .sl b 0 (l.take i).length l.length 0 ∧
      PT.get b H.t = some (.cells (intVals (l.take i) ++ zeros (l.length - (l.take i).length)) false false) ∧ b.toNat < H.nx.toNat ∧ Keep N H0 H) →
    W E (.loop g6l6) ro ⟨t, []⟩ H (fun e a H' => e = .exit 0 ∧ a.ds = [] ∧ tget a.t (Pos.ofNat 3) = .sl b 0 l.length l.length 0 ∧ PT.get b H'.t = some (.cells (intVals l) false false) ∧ b.toNat < H'.nx.toNat ∧ Keep N H0 H') := by
  refine W.loop_inv (Q := fun e a H' => e = .exit 0 ∧ a.ds = [] ∧ tget a.t (Pos.ofNat 3) = .sl b 0 l.length l.length 0 ∧ PT.get b H'.t = some (.cells (intVals l) false false) ∧ b.toNat < H'.nx.toNat ∧ Keep N H0 H') _ ?_
  rintro n t H ⟨i, hi, h0, h4, h3, hb, hbl, hk⟩
  refine W.seq (W.seq (W.region ?_))
  simp (maxDischargeDepth := 9) only [auW, auC, auT, lget, BEq.rfl, beq_self_eq_true, decide_true, decide_false, reduceCtorEq, Nat.reduceLT, Nat.reduceEqDiff, ↓reduceIte, g6r3, h0, h4, (IReads.fLen (hx.keep hk (Nat.le_refl _)))]
  refine W.cond_if (p := i < l.length) (by simp [AOpnd.ev, tget_puts]) (fun hlt => W.skip ?_) (fun hge => W.exit ?_)
  rotate_left
  · rw [List.take_of_length_le (by omega)] at h3 hb
    rw [Nat.sub_self] at hb
    refine ⟨by trivial, by trivial, ?_, by simpa [zeros] using hb, hbl, hk⟩
    simp only [tget_puts, Nat.reduceLT, Nat.reduceEqDiff, ↓reduceIte, h3]
  simp only [andThen]
  obtain ⟨bx, ox, e1, e2⟩ := IReads.fIdx (hx.keep hk (Nat.le_refl _)) hlt
  refine W.seq (W.block (W.region ?_))
  simp (maxDischargeDepth := 9) only [auW, auC, auT, lget, BEq.rfl, beq_self_eq_true, decide_true, decide_false, reduceCtorEq, Nat.reduceLT, Nat.reduceEqDiff, ↓reduceIte, g6r4, h0, h3, h4, e1, fLoad1, e2]
  refine wo_buildSlice (fill1 (v := .int .i64 l[i]) (by simp [AOpnd.ev, tget_puts]) rfl) ?_
  have hbne : b ≠ H.nx := fun e => by rw [e] at hbl; omega
  have hb2 : PT.get b (H.new (.cells [.int .i64 l[i]] false false)).2.t = some (.cells (intVals (l.take i) ++ zeros (l.length - (l.take i).length)) false false) := by
    rw [get_new_other hbne]; exact hb
  refine wo_appendE (append_zroom (by' := 8) hb2 (by rw [List.length_take]; omega) src_new) (by simp only [auT, Nat.reduceLT, Nat.reduceEqDiff, ↓reduceIte, h3]) (by simp only [auT, Nat.reduceLT, Nat.reduceEqDiff, ↓reduceIte]; rfl) ?_
  simp (maxDischargeDepth := 9) only [auW, auC, auT, lget, BEq.rfl, beq_self_eq_true, decide_true, decide_false, reduceCtorEq, Nat.reduceLT, Nat.reduceEqDiff, ↓reduceIte]
  simp only [andThen, inBlock]
  refine W.region ?_
  simp (maxDischargeDepth := 9) only [auW, auC, auT, lget, BEq.rfl, beq_self_eq_true, decide_true, decide_false, reduceCtorEq, Nat.reduceLT, Nat.reduceEqDiff, ↓reduceIte, g6r5, h4, b_add (show i + 1 ≤ 9223372036854775807 by omega)]
  have htk : l.take (i + 1) = l.take i ++ [l[i]] := by rw [List.take_succ_eq_append_getElem hlt]
  have htl : (l.take i ++ [l[i]]).length = (l.take i).length + 1 := by rw [List.length_append, List.length_singleton]
  refine ⟨by trivial, n - 1, by omega, i + 1, by omega, ?_, ?_, ?_, by rw [htk, htl]; exact get_upd, ?_, ?_⟩
  · simp only [tget_puts, Nat.reduceLT, Nat.reduceEqDiff, ↓reduceIte, h0]
  · simp only [tget_puts, Nat.reduceLT, Nat.reduceEqDiff, ↓reduceIte]
  · rw [htk, htl]
    simp only [tget_puts, Nat.reduceLT, Nat.reduceEqDiff, ↓reduceIte]
  · show b.toNat < H.nx.succ.toNat
    rw [Pos.toNat_succ]; omega
  · exact hk.trans ((keep_new.mono (by omega)).trans (keep_upd hNb))
theorem ints_ok (C : CodeOkM E) {N : Nat} {H : AHeap} {x : AVal} {l : List Int} (hx : Reads N H x (intVals l)) (hN : N ≤ H.nx.toNat) (hl : l.length ≤ 1000000) :
    ∃ v H', CallS E 6 [x] H v H' ∧ (∃ b, v = .sl b 0 l.length l.length 0 ∧ PT.get b H'.t = some (.cells (intVals l) false false) ∧ H.nx.toNat ≤ b.toNat ∧ b.toNat < H'.nx.toNat) ∧ Keep H.nx.toNat H H' := by
  refine CallS.by (R := fun v H' => (∃ b, v = .sl b 0 l.length l.length 0 ∧ PT.get b H'.t = some (.cells (intVals l) false false) ∧ H.nx.toNat ≤ b.toNat ∧ b.toNat < H'.nx.toNat) ∧ Keep H.nx.toNat H H') (t0 := tput .l (some (Pos.ofNat 0)) x) (C.s _ rfl) rfl C.f6 rfl ?_
  refine W.seq (W.region ?_)
  simp (maxDischargeDepth := 9) only [auW, auC, auT, lget, BEq.rfl, beq_self_eq_true, decide_true, decide_false, reduceCtorEq, Nat.reduceLT, Nat.reduceEqDiff, ↓reduceIte, g6r0]
  refine W.seq (W.region ?_)
  simp (maxDischargeDepth := 9) only [auW, auC, auT, lget, BEq.rfl, beq_self_eq_true, decide_true, decide_false, reduceCtorEq, Nat.reduceLT, Nat.reduceEqDiff, ↓reduceIte, g6r1, (IReads.fLen hx)]
  refine wo_mkSlice (n := 0) (c := l.length) (by simp only [auT, Nat.reduceLT, Nat.reduceEqDiff, ↓reduceIte]; try rfl) (by simp only [auT, Nat.reduceLT, Nat.reduceEqDiff, ↓reduceIte]; try rfl) (by omega) (by omega) (by omega) ?_
  simp (maxDischargeDepth := 9) only [auW, auC, auT, lget, BEq.rfl, beq_self_eq_true, decide_true, decide_false, reduceCtorEq, Nat.reduceLT, Nat.reduceEqDiff, ↓reduceIte]
  refine W.seq (W.seq (W.region ?_))
  simp (maxDischargeDepth := 9) only [auW, auC, auT, lget, BEq.rfl, beq_self_eq_true, decide_true, decide_false, reduceCtorEq, Nat.reduceLT, Nat.reduceEqDiff, ↓reduceIte, g6r2]
  refine W.block (W.mono (ints_loop (N := H.nx.toNat) (b := H.nx) (hx.mono hN) hl (Nat.le_refl _) l.length _ _ ⟨0, by omega, ?_, ?_, ?_, ?_, ?_, keep_new⟩) ?_)
  · simp only [tget_puts, Nat.reduceLT, Nat.reduceEqDiff, ↓reduceIte]
  · simp only [tget_puts, Nat.reduceLT, Nat.reduceEqDiff, ↓reduceIte]
  · simp only [tget_puts, Nat.reduceLT, Nat.reduceEqDiff, ↓reduceIte]
    try rfl
  · rw [repl_zeros]
    exact get_new
  · rw [nx_new]; omega
  rintro e ⟨t', ds⟩ H' ⟨rfl, hd, h3, hb, hbl, hk⟩
  have hd : ds = [] := hd
  subst hd
  have h3 : tget t' (Pos.ofNat 3) = .sl H.nx 0 l.length l.length 0 := h3
  simp only [andThen, inBlock, beq_t]
  refine W.seq (W.region ?_)
  simp (maxDischargeDepth := 9) only [auW, auC, auT, lget, BEq.rfl, beq_self_eq_true, decide_true, decide_false, reduceCtorEq, Nat.reduceLT, Nat.reduceEqDiff, ↓reduceIte, g6r7, h3]
  refine W.ret ⟨.inr rfl, rfl, .sl H.nx 0 l.length l.length 0, ?_, ⟨H.nx, rfl, hb, Nat.le_refl _, hbl⟩, hk⟩
  simp [resultA, g6, tget_puts]
theorem isame_loop {N : Nat} {H : AHeap} {x y : AVal} {l : List Int} (hx : Reads N H x (intVals l)) (hy : Reads N H y (intVals l)) (hl : l.length ≤ 1073741824) {ro : Option Pos} :
    ∀ (n : Nat) (t : PT AVal) (H1 : AHeap), (∃ i, i + n = l.length ∧ tget t (Pos.ofNat 0) = x ∧ tget t (Pos.ofNat 1) = y ∧ tget t (Pos.ofNat 5) = .int .i64 (.ofNat i) ∧ H1 = H) →
    W E (.loop g7l8) ro ⟨t, []⟩ H1 (fun e a H' => e = .exit 0 ∧ a.ds = [] ∧ H' = H) := by
  refine W.loop_inv (Q := fun e a H' => e = .exit 0 ∧ a.ds = [] ∧ H' = H) _ ?_
  rintro n t H1 ⟨i, hi, h0, h1, h5, rfl⟩
  refine W.seq (W.seq (W.region ?_))
  simp (maxDischargeDepth := 9) only [auW, auC, auT, lget, BEq.rfl, beq_self_eq_true, decide_true, decide_false, reduceCtorEq, Nat.reduceLT, Nat.reduceEqDiff, ↓reduceIte, g7r4, h0, h5, (IReads.fLen hx)]
  refine W.cond_if (p := i < l.length) (by simp [AOpnd.ev, tget_puts]) (fun hlt => W.skip ?_) (fun hge => W.exit ?_)
  rotate_left
  · exact ⟨by trivial, by trivial, by trivial⟩
  simp only [andThen]
  obtain ⟨bx, ox, e1, e2⟩ := IReads.fIdx hx hlt
  obtain ⟨b', o', f1, f2⟩ := IReads.fIdx hy hlt
  refine W.seq (W.block (W.seq (W.draw ?_)))
  simp (maxDischargeDepth := 9) only [auD, auC, auT, lget, BEq.rfl, beq_self_eq_true, decide_true, decide_false, reduceCtorEq, Nat.reduceLT, Nat.reduceEqDiff, ↓reduceIte, g7d5, h0, h1, h5, e1, f1, fLoad1, e2, f2, eqb, eq_self]
  simp only [andThen]
  refine W.cond_false (by simp [AOpnd.ev, tget_puts]) (W.skip ?_)
  simp only [andThen, inBlock]
  refine W.region ?_
  simp (maxDischargeDepth := 9) only [auW, auC, auT, lget, BEq.rfl, beq_self_eq_true, decide_true, decide_false, reduceCtorEq, Nat.reduceLT, Nat.reduceEqDiff, ↓reduceIte, g7r7, h5, b_add (show i + 1 ≤ 9223372036854775807 by omega)]
  refine ⟨by trivial, n - 1, by omega, i + 1, by omega, ?_, ?_, ?_, by trivial⟩
  · simp only [tget_puts, Nat.reduceLT, Nat.reduceEqDiff, ↓reduceIte, h0]
  · simp only [tget_puts, Nat.reduceLT, Nat.reduceEqDiff, ↓reduceIte, h1]
  · simp only [tget_puts, Nat.reduceLT, Nat.reduceEqDiff, ↓reduceIte]
theorem isame_ok (C : CodeOkM E) {N : Nat} {H : AHeap} {x y : AVal} {l : List Int} (hx : Reads N H x (intVals l)) (hy : Reads N H y (intVals l)) (hl : l.length ≤ 1073741824) : CallS E 7 [x, y] H (.bool true) H := by
  suffices h : ∃ v H', CallS E 7 [x, y] H v H' ∧ v = .bool true ∧ H' = H by obtain ⟨v, H', h, rfl, rfl⟩ := h; exact h
  refine CallS.by (R := fun v H' => v = .bool true ∧ H' = H) (t0 := tput (tput .l (some (Pos.ofNat 0)) x) (some (Pos.ofNat 1)) y) (C.s _ rfl) rfl C.f7 rfl ?_
  refine W.seq (W.region ?_)
  simp (maxDischargeDepth := 9) only [auW, auC, auT, lget, BEq.rfl, beq_self_eq_true, decide_true, decide_false, reduceCtorEq, Nat.reduceLT, Nat.reduceEqDiff, ↓reduceIte, g7r0]
  refine W.seq (W.seq (W.region ?_))
  simp (maxDischargeDepth := 9) only [auW, auC, auT, lget, BEq.rfl, beq_self_eq_true, decide_true, decide_false, reduceCtorEq, Nat.reduceLT, Nat.reduceEqDiff, ↓reduceIte, g7r1, (IReads.fLen hx), (IReads.fLen hy)]
  refine W.cond_false (by simp [AOpnd.ev, tget_puts]) (W.skip ?_)
  simp only [andThen]
  refine W.seq (W.seq (W.region ?_))
  simp (maxDischargeDepth := 9) only [auW, auC, auT, lget, BEq.rfl, beq_self_eq_true, decide_true, decide_false, reduceCtorEq, Nat.reduceLT, Nat.reduceEqDiff, ↓reduceIte, g7r3]
  refine W.block (W.mono (isame_loop hx hy hl l.length _ _ ⟨0, by omega, ?_, ?_, ?_, rfl⟩) ?_)
  · simp only [tget_puts, Nat.reduceLT, Nat.reduceEqDiff, ↓reduceIte]
  · simp only [tget_puts, Nat.reduceLT, Nat.reduceEqDiff, ↓reduceIte]
  · simp only [tget_puts, Nat.reduceLT, Nat.reduceEqDiff, ↓reduceIte]
  rintro e ⟨t', ds⟩ H' ⟨rfl, hd, rfl⟩
  have hd : ds = [] := hd
  subst hd
  simp only [andThen, inBlock, beq_t]
  refine W.seq (W.region ?_)
  simp (maxDischargeDepth := 9) only [auW, auC, auT, lget, BEq.rfl, beq_self_eq_true, decide_true, decide_false, reduceCtorEq, Nat.reduceLT, Nat.reduceEqDiff, ↓reduceIte, g7r9]
  refine W.ret ⟨.inr rfl, rfl, .bool true, ?_, rfl, rfl⟩
  simp [resultA, g7, tget_puts]
end
end Go.Am
end

section
namespace Go.Am
open Go Go.RowKit
section
variable {E : Env}
theorem z_lss (a b : Int) : binOpA .lss (.int .i64 a) (.int .i64 b) = some (.bool (ltI a b)) := rfl
theorem z_eql (a b : Int) : binOpA .eql (.int .i64 a) (.int .i64 b) = some (.bool (eqI a b)) := rfl
theorem z_neq (a b : Int) : binOpA .neq (.int .i64 a) (.int .i64 b) = some (.bool (!(eqI a b))) := rfl
theorem wantUM (c : Bool) : wantV AVal.undef c = some false := rfl
theorem push_gi {K : Nat} {H : AHeap} {v : AVal} {l : List Int} (h : GI K H v l) (hK : K ≤ H.nx.toNat) (z : Int) (hl : l.length ≤ 9000000) : ∃ v' H', appendA (H.new (.cells [.int .i64 z] false false)).2 1 8 v (.sl H.nx 0 1 1 0) = some (v', H') ∧ GI K H' v' (l ++ [z]) ∧ Keep K H H' := by
  obtain ⟨v', H', h1, h2, h3⟩ := append_gi (x := .sl H.nx 0 1 1 0) (xs := [z]) (n := 1) (h.keep (keep_new (x := .cells [.int .i64 z] false false)) (Nat.le_refl _)) (by rw [nx_new]; omega) src_new rfl (by simp; omega)
  exact ⟨v', H', h1, h2, (keep_new.mono hK).trans h3⟩
theorem with_loop {N K : Nat} {H0 : AHeap} {x : AVal} {l : List Int} {u : Int} {b : Bool} (hx : Reads N H0 x (intVals l)) (hNK : N ≤ K) (hK : K ≤ H0.nx.toNat) (hl : l.length ≤ 4000000) {ro : Option Pos} :
    ∀ (n : Nat) (t : PT AVal) (H : AHeap), (∃ i, i + n = cntR u l ∧ tget t (Pos.ofNat 0) = x ∧ tget t (Pos.ofNat 1) = .int .i64 u ∧ tget t (Pos.ofNat 2) = .bool b ∧ tget t (Pos.ofNat 8) = .int .i64 (.ofNat i) ∧ GI K H (tget t (Pos.ofNat 7)) (l.take i) ∧ Keep K H0 H) →
    W E (.loop g25l6) ro ⟨t, []⟩ H (fun e a H' => e = .exit 0 ∧ a.ds = [] ∧ tget a.t (Pos.ofNat 0) = x ∧ tget a.t (Pos.ofNat 1) = .int .i64 u ∧ tget a.t (Pos.ofNat 2) = .bool b ∧ tget a.t (Pos.ofNat 8) = .int .i64 (.ofNat (cntR u l)) ∧ GI K H' (tget a.t (Pos.ofNat 7)) (l.take (cntR u l)) ∧ Keep K H0 H') := by
  refine W.loop_inv (Q := fun e a H' => e = .exit 0 ∧ a.ds = [] ∧ tget a.t (Pos.ofNat 0) = x ∧ tget a.t (Pos.ofNat 1) = .int .i64 u ∧ tget a.t (Pos.ofNat 2) = .bool b ∧ tget a.t (Pos.ofNat 8) = .int .i64 (.ofNat (cntR u l)) ∧ GI K H' (tget a.t (Pos.ofNat 7)) (l.take (cntR u l)) ∧ Keep K H0 H') _ ?_
  rintro n t H ⟨i, hi, h0, h1, h2, h8, h7, hk⟩
  have hxk := hx.keep hk hNK
  have hcl := cntR_le u l
  refine W.seq (W.seq (W.region ?_))
  cases n with
  | zero =>
    have hic : i = cntR u l := by omega
    subst hic
    rcases Nat.lt_or_ge (cntR u l) l.length with hlt | hge
    · obtain ⟨bx, ox, e1, e2⟩ := IReads.fIdx hxk hlt
      have hz : binOpA .lss (.int .i64 l[cntR u l]) (.int .i64 u) = some (.bool false) := by rw [z_lss, (cntR_at hlt).1]
      simp (maxDischargeDepth := 9) only [auW, auC, auT, lget, BEq.rfl, beq_self_eq_true, decide_true, decide_false, reduceCtorEq, Nat.reduceLT, Nat.reduceEqDiff, ↓reduceIte, g25r3, h0, h1, h8, (IReads.fLen hxk), hlt, e1, fLoad1, e2, hz]
      refine W.cond_false (by simp [AOpnd.ev, tget_puts]) (W.exit ?_)
      refine ⟨by trivial, by trivial, ?_, ?_, ?_, ?_, ?_, hk⟩
      · simp only [tget_puts, Nat.reduceLT, Nat.reduceEqDiff, ↓reduceIte, h0]
      · simp only [tget_puts, Nat.reduceLT, Nat.reduceEqDiff, ↓reduceIte, h1]
      · simp only [tget_puts, Nat.reduceLT, Nat.reduceEqDiff, ↓reduceIte, h2]
      · simp only [tget_puts, Nat.reduceLT, Nat.reduceEqDiff, ↓reduceIte, h8]
      · simp only [tget_puts, Nat.reduceLT, Nat.reduceEqDiff, ↓reduceIte]
        exact h7
    · have hge' : ¬ cntR u l < l.length := by omega
      simp (maxDischargeDepth := 9) only [auW, auC, auT, lget, BEq.rfl, beq_self_eq_true, decide_true, decide_false, reduceCtorEq, Nat.reduceLT, Nat.reduceEqDiff, ↓reduceIte, g25r3, h0, h1, h8, (IReads.fLen hxk), hge', wantUM]
      refine W.cond_false (by simp [AOpnd.ev, tget_puts]) (W.exit ?_)
      refine ⟨by trivial, by trivial, ?_, ?_, ?_, ?_, ?_, hk⟩
      · simp only [tget_puts, Nat.reduceLT, Nat.reduceEqDiff, ↓reduceIte, h0]
      · simp only [tget_puts, Nat.reduceLT, Nat.reduceEqDiff, ↓reduceIte, h1]
      · simp only [tget_puts, Nat.reduceLT, Nat.reduceEqDiff, ↓reduceIte, h2]
      · simp only [tget_puts, Nat.reduceLT, Nat.reduceEqDiff, ↓reduceIte, h8]
      · simp only [tget_puts, Nat.reduceLT, Nat.reduceEqDiff, ↓reduceIte]
        exact h7
  | succ n =>
    have hlt : i < l.length := by omega
    obtain ⟨bx, ox, e1, e2⟩ := IReads.fIdx hxk hlt
    have hz : binOpA .lss (.int .i64 l[i]) (.int .i64 u) = some (.bool true) := by rw [z_lss, cntR_lt hlt (by omega)]
    simp (maxDischargeDepth := 9) only [auW, auC, auT, lget, BEq.rfl, beq_self_eq_true, decide_true, decide_false, reduceCtorEq, Nat.reduceLT, Nat.reduceEqDiff, ↓reduceIte, g25r3, h0, h1, h8, (IReads.fLen hxk), hlt, e1, fLoad1, e2, hz]
    refine W.cond_true (by simp [AOpnd.ev, tget_puts]) (W.skip ?_)
    simp only [andThen]
    refine W.block (W.seq (W.region ?_))
    simp (maxDischargeDepth := 9) only [auW, auC, auT, lget, BEq.rfl, beq_self_eq_true, decide_true, decide_false, reduceCtorEq, Nat.reduceLT, Nat.reduceEqDiff, ↓reduceIte, g25r4, h0, h8, e1, fLoad1, e2]
    refine wo_buildSlice (fill1 (v := .int .i64 l[i]) (by simp [AOpnd.ev, tget_puts]) rfl) ?_
    obtain ⟨v', H2, ha, hg, hk2⟩ := push_gi h7 (Nat.le_trans hK hk.nx) l[i] (by rw [List.length_take]; omega)
    refine wo_appendE ha (by simp only [auT, Nat.reduceLT, Nat.reduceEqDiff, ↓reduceIte]; try rfl) (by simp only [auT, Nat.reduceLT, Nat.reduceEqDiff, ↓reduceIte]; try rfl) ?_
    simp (maxDischargeDepth := 9) only [auW, auC, auT, lget, BEq.rfl, beq_self_eq_true, decide_true, decide_false, reduceCtorEq, Nat.reduceLT, Nat.reduceEqDiff, ↓reduceIte]
    simp only [andThen]
    refine W.region ?_
    simp (maxDischargeDepth := 9) only [auW, auC, auT, lget, BEq.rfl, beq_self_eq_true, decide_true, decide_false, reduceCtorEq, Nat.reduceLT, Nat.reduceEqDiff, ↓reduceIte, g25r5, h8, b_add (show i + 1 ≤ 9223372036854775807 by omega)]
    simp only [inBlock]
    refine ⟨by trivial, n, by omega, i + 1, by omega, ?_, ?_, ?_, ?_, ?_, hk.trans hk2⟩
    · simp only [tget_puts, Nat.reduceLT, Nat.reduceEqDiff, ↓reduceIte, h0]
    · simp only [tget_puts, Nat.reduceLT, Nat.reduceEqDiff, ↓reduceIte, h1]
    · simp only [tget_puts, Nat.reduceLT, Nat.reduceEqDiff, ↓reduceIte, h2]
    · simp only [tget_puts, Nat.reduceLT, Nat.reduceEqDiff, ↓reduceIte]
    · simp only [tget_puts, Nat.reduceLT, Nat.reduceEqDiff, ↓reduceIte]
      rw [List.take_succ_eq_append_getElem hlt]
      exact hg
/-- The reference's with. -/
theorem with_ok (C : CodeOkM E) {N : Nat} {H : AHeap} {x : AVal} {l : List Int} (u : Int) (b : Bool) (hx : GI N H x l) (hl : l.length ≤ 4000000) :
    ∃ v H', CallS E 25 [x, .int .i64 u, .bool b] H v H' ∧ GI H.nx.toNat H' v (withR u b l) ∧ Keep H.nx.toNat H H' := by
  refine CallS.by (R := fun v H' => GI H.nx.toNat H' v (withR u b l) ∧ Keep H.nx.toNat H H') (t0 := tput (tput (tput .l (some (Pos.ofNat 0)) x) (some (Pos.ofNat 1)) (.int .i64 u)) (some (Pos.ofNat 2)) (.bool b)) (C.s _ rfl) rfl C.f25 rfl ?_
  have hcl := cntR_le u l
  refine W.seq (W.region ?_)
  simp (maxDischargeDepth := 9) only [auW, auC, auT, lget, BEq.rfl, beq_self_eq_true, decide_true, decide_false, reduceCtorEq, Nat.reduceLT, Nat.reduceEqDiff, ↓reduceIte, g25r0]
  refine W.seq (W.region ?_)
  simp (maxDischargeDepth := 9) only [auW, auC, auT, lget, BEq.rfl, beq_self_eq_true, decide_true, decide_false, reduceCtorEq, Nat.reduceLT, Nat.reduceEqDiff, ↓reduceIte, g25r1]
  refine W.seq (W.region ?_)
  simp (maxDischargeDepth := 9) only [auW, auC, auT, lget, BEq.rfl, beq_self_eq_true, decide_true, decide_false, reduceCtorEq, Nat.reduceLT, Nat.reduceEqDiff, ↓reduceIte, g25r2]
  simp only [andThen]
  refine W.seq (W.block (W.mono (with_loop (K := H.nx.toNat) (u := u) (b := b) hx.reads (Nat.le_refl _) (Nat.le_refl _) hl (cntR u l) _ _ ⟨0, by omega, ?_, ?_, ?_, ?_, ?_, Keep.refl _ _⟩) ?_))
  · simp only [tget_puts, Nat.reduceLT, Nat.reduceEqDiff, ↓reduceIte]
  · simp only [tget_puts, Nat.reduceLT, Nat.reduceEqDiff, ↓reduceIte]
  · simp only [tget_puts, Nat.reduceLT, Nat.reduceEqDiff, ↓reduceIte]
  · simp only [tget_puts, Nat.reduceLT, Nat.reduceEqDiff, ↓reduceIte]
  · simp only [tget_puts, Nat.reduceLT, Nat.reduceEqDiff, ↓reduceIte]
    exact .inl ⟨rfl, rfl⟩
  rintro e ⟨t1, ds⟩ H1 ⟨rfl, hd, q0, q1, q2, q8, q7, k1⟩
  have hd : ds = [] := hd
  subst hd
  simp only [inBlock, beq_t, andThen]
  have q0 : tget t1 (Pos.ofNat 0) = x := q0
  have q1 : tget t1 (Pos.ofNat 1) = .int .i64 u := q1
  have q2 : tget t1 (Pos.ofNat 2) = .bool b := q2
  have q8 : tget t1 (Pos.ofNat 8) = .int .i64 (.ofNat (cntR u l)) := q8
  have q7 : GI H.nx.toNat H1 (tget t1 (Pos.ofNat 7)) (l.take (cntR u l)) := q7
  -- the number itself
  have hin : W E (.seq (.region g25r7) (.cond (.t (Pos.ofNat 30)) (.region g25r8) .skip)) none ⟨t1, []⟩ H1 (fun e a H' => e = .normal ∧ a.ds = [] ∧ tget a.t (Pos.ofNat 0) = x ∧ tget a.t (Pos.ofNat 1) = .int .i64 u ∧ tget a.t (Pos.ofNat 8) = .int .i64 (.ofNat (cntR u l)) ∧ GI H.nx.toNat H' (tget a.t (Pos.ofNat 7)) (l.take (cntR u l) ++ inZ u b) ∧ Keep H.nx.toNat H H') := by
    refine W.seq (W.region ?_)
    simp (maxDischargeDepth := 9) only [auW, auC, auT, lget, BEq.rfl, beq_self_eq_true, decide_true, decide_false, reduceCtorEq, Nat.reduceLT, Nat.reduceEqDiff, ↓reduceIte, g25r7, q2]
    simp only [andThen]
    cases b with
    | false =>
      refine W.cond_false (by simp [AOpnd.ev, tget_puts]) (W.skip ?_)
      refine ⟨by trivial, by trivial, ?_, ?_, ?_, ?_, k1⟩
      · simp only [tget_puts, Nat.reduceLT, Nat.reduceEqDiff, ↓reduceIte, q0]
      · simp only [tget_puts, Nat.reduceLT, Nat.reduceEqDiff, ↓reduceIte, q1]
      · simp only [tget_puts, Nat.reduceLT, Nat.reduceEqDiff, ↓reduceIte, q8]
      · simp only [tget_puts, Nat.reduceLT, Nat.reduceEqDiff, ↓reduceIte]
        simpa [inZ] using q7
    | true =>
      refine W.cond_true (by simp [AOpnd.ev, tget_puts]) (W.region ?_)
      simp (maxDischargeDepth := 9) only [auW, auC, auT, lget, BEq.rfl, beq_self_eq_true, decide_true, decide_false, reduceCtorEq, Nat.reduceLT, Nat.reduceEqDiff, ↓reduceIte, g25r8, q1]
      refine wo_buildSlice (fill1 (v := .int .i64 u) (by simp [AOpnd.ev, tget_puts]) rfl) ?_
      obtain ⟨v', H2, ha, hg, hk2⟩ := push_gi q7 k1.nx u (by rw [List.length_take]; omega)
      refine wo_appendE ha (by simp only [auT, Nat.reduceLT, Nat.reduceEqDiff, ↓reduceIte]; try rfl) (by simp only [auT, Nat.reduceLT, Nat.reduceEqDiff, ↓reduceIte]; try rfl) ?_
      simp (maxDischargeDepth := 9) only [auW, auC, auT, lget, BEq.rfl, beq_self_eq_true, decide_true, decide_false, reduceCtorEq, Nat.reduceLT, Nat.reduceEqDiff, ↓reduceIte]
      refine ⟨by trivial, by trivial, ?_, ?_, ?_, ?_, k1.trans hk2⟩
      · simp only [tget_puts, Nat.reduceLT, Nat.reduceEqDiff, ↓reduceIte, q0]
      · simp only [tget_puts, Nat.reduceLT, Nat.reduceEqDiff, ↓reduceIte, q1]
      · simp only [tget_puts, Nat.reduceLT, Nat.reduceEqDiff, ↓reduceIte, q8]
      · try (simp only [tget_puts, Nat.reduceLT, Nat.reduceEqDiff, ↓reduceIte])
        exact hg
  refine W.seq (W.mono hin ?_)
  rintro e ⟨t2, ds⟩ H2 ⟨rfl, hd, p0, p1, p8, p7, k2⟩
  have hd : ds = [] := hd
  subst hd
  simp only [andThen]
  have p0 : tget t2 (Pos.ofNat 0) = x := p0
  have p1 : tget t2 (Pos.ofNat 1) = .int .i64 u := p1
  have p8 : tget t2 (Pos.ofNat 8) = .int .i64 (.ofNat (cntR u l)) := p8
  have p7 : GI H.nx.toNat H2 (tget t2 (Pos.ofNat 7)) (l.take (cntR u l) ++ inZ u b) := p7
  have hx2 := hx.reads.keep k2 (Nat.le_refl _)
  have hhit : W E (.seq (.region g25r9) (.cond (.t (Pos.ofNat 46)) (.region g25r10) .skip)) none ⟨t2, []⟩ H2 (fun e a H' => e = .normal ∧ a.ds = [] ∧ H' = H2 ∧ tget a.t (Pos.ofNat 0) = x ∧ tget a.t (Pos.ofNat 8) = .int .i64 (.ofNat (tailZ u l)) ∧ tget a.t (Pos.ofNat 7) = tget t2 (Pos.ofNat 7)) := by
    refine W.seq (W.region ?_)
    rcases Nat.lt_or_ge (cntR u l) l.length with hlt | hge
    · obtain ⟨bx, ox, e1, e2⟩ := IReads.fIdx hx2 hlt
      have hz : binOpA .eql (.int .i64 l[cntR u l]) (.int .i64 u) = some (.bool (hitZ u l)) := by rw [z_eql, (cntR_at hlt).2]
      simp (maxDischargeDepth := 9) only [auW, auC, auT, lget, BEq.rfl, beq_self_eq_true, decide_true, decide_false, reduceCtorEq, Nat.reduceLT, Nat.reduceEqDiff, ↓reduceIte, g25r9, p0, p1, p8, (IReads.fLen hx2), hlt, e1, fLoad1, e2, hz]
      simp only [andThen]
      unfold tailZ
      cases hh : hitZ u l with
      | true =>
        refine W.cond_true (by simp [AOpnd.ev, tget_puts]) (W.region ?_)
        simp (maxDischargeDepth := 9) only [auW, auC, auT, lget, BEq.rfl, beq_self_eq_true, decide_true, decide_false, reduceCtorEq, Nat.reduceLT, Nat.reduceEqDiff, ↓reduceIte, g25r10, p8, b_add (show cntR u l + 1 ≤ 9223372036854775807 by omega)]
        refine ⟨by trivial, by trivial, by trivial, ?_, ?_, ?_⟩
        · simp only [tget_puts, Nat.reduceLT, Nat.reduceEqDiff, ↓reduceIte, p0]
        · simp only [tget_puts, Nat.reduceLT, Nat.reduceEqDiff, ↓reduceIte]
        · simp only [tget_puts, Nat.reduceLT, Nat.reduceEqDiff, ↓reduceIte]
      | false =>
        refine W.cond_false (by simp [AOpnd.ev, tget_puts]) (W.skip ?_)
        refine ⟨by trivial, by trivial, by trivial, ?_, ?_, ?_⟩
        · simp only [tget_puts, Nat.reduceLT, Nat.reduceEqDiff, ↓reduceIte, p0]
        · simp only [tget_puts, Nat.reduceLT, Nat.reduceEqDiff, ↓reduceIte, p8]
        · simp only [tget_puts, Nat.reduceLT, Nat.reduceEqDiff, ↓reduceIte]
    · have hge' : ¬ cntR u l < l.length := by omega
      have hh := hitZ_end (u := u) (l := l) (by omega)
      simp (maxDischargeDepth := 9) only [auW, auC, auT, lget, BEq.rfl, beq_self_eq_true, decide_true, decide_false, reduceCtorEq, Nat.reduceLT, Nat.reduceEqDiff, ↓reduceIte, g25r9, p0, p1, p8, (IReads.fLen hx2), hge', wantUM]
      simp only [andThen]
      refine W.cond_false (by simp [AOpnd.ev, tget_puts]) (W.skip ?_)
      unfold tailZ
      rw [hh]
      refine ⟨by trivial, by trivial, by trivial, ?_, ?_, ?_⟩
      · simp only [tget_puts, Nat.reduceLT, Nat.reduceEqDiff, ↓reduceIte, p0]
      · simp only [tget_puts, Nat.reduceLT, Nat.reduceEqDiff, ↓reduceIte, p8]
      · simp only [tget_puts, Nat.reduceLT, Nat.reduceEqDiff, ↓reduceIte]
  refine W.seq (W.mono hhit ?_)
  rintro e ⟨t3, ds⟩ H3 ⟨rfl, hd, rfl, r0, r8, r7⟩
  have hd : ds = [] := hd
  subst hd
  simp only [andThen]
  have r0 : tget t3 (Pos.ofNat 0) = x := r0
  have r8 : tget t3 (Pos.ofNat 8) = .int .i64 (.ofNat (tailZ u l)) := r8
  have r7 : tget t3 (Pos.ofNat 7) = tget t2 (Pos.ofNat 7) := r7
  have hkl : (tailZ u l) ≤ l.length := by
    unfold tailZ
    cases hh : hitZ u l with
    | false => exact hcl
    | true =>
      rcases Nat.lt_or_ge (cntR u l) l.length with hlt | hge
      · exact hlt
      · rw [hitZ_end (by omega)] at hh; cases hh
  have heq := withR_eq u b l
  generalize tailZ u l = k at r8 hkl heq
  obtain ⟨w, hw1, hw2⟩ := hx.tail hkl
  have hw1 : ∀ t : PT AVal, tget t (Pos.ofNat 51) = .int .i64 (.ofNat k) → sliceA t (.sl 1) x (some (.t (Pos.ofNat 51))) none none = some w := fun t h => hw1 t _ h
  have hil : (inZ u b).length ≤ 1 := by cases b <;> simp [inZ]
  obtain ⟨v', H4, ha, hg, hk4⟩ := append_gi p7 k2.nx (hw2 _ k2) rfl (by rw [List.length_append, List.length_take, List.length_drop]; omega)
  rw [← heq] at hg
  refine W.seq (W.region ?_)
  simp (maxDischargeDepth := 9) only [auW, auC, auT, lget, BEq.rfl, beq_self_eq_true, decide_true, decide_false, reduceCtorEq, Nat.reduceLT, Nat.reduceEqDiff, ↓reduceIte, g25r11, r0, r8, hw1]
  refine wo_appendE ha (by simp only [auT, Nat.reduceLT, Nat.reduceEqDiff, ↓reduceIte, r7]; try rfl) (by simp only [auT, Nat.reduceLT, Nat.reduceEqDiff, ↓reduceIte]; try rfl) ?_
  simp (maxDischargeDepth := 9) only [auW, auC, auT, lget, BEq.rfl, beq_self_eq_true, decide_true, decide_false, reduceCtorEq, Nat.reduceLT, Nat.reduceEqDiff, ↓reduceIte]
  simp only [andThen]
  refine W.ret ⟨.inr rfl, rfl, v', ?_, hg, k2.trans hk4⟩
  simp [resultA, g25, tget_puts]
end
end Go.Am
end

section
namespace Go.Am
open Go Go.RowKit
section
variable {E : Env}
theorem to_loop (C : CodeOkM E) {N K : Nat} {H0 : AHeap} {x y : AVal} {v : Int} {to : List Int} (hy : Reads N H0 y (intVals to)) (hNK : N ≤ K) (hK : K ≤ H0.nx.toNat) (hl : to.length ≤ 1000000) {ro : Option Pos} :
    ∀ (n : Nat) (t : PT AVal) (H : AHeap), (∃ i, i + n = to.length ∧ tget t (Pos.ofNat 0) = .int .i64 v ∧ tget t (Pos.ofNat 1) = y ∧ tget t (Pos.ofNat 2) = x ∧ tget t (Pos.ofNat 8) = .int .i64 (.ofNat i) ∧ GI K H (tget t (Pos.ofNat 7)) (toR v [] (to.take i)) ∧ Keep K H0 H) →
    W E (.loop g9l7) ro ⟨t, []⟩ H (fun e a H' => e = .exit 0 ∧ a.ds = [] ∧ tget a.t (Pos.ofNat 0) = .int .i64 v ∧ tget a.t (Pos.ofNat 2) = x ∧ GI K H' (tget a.t (Pos.ofNat 7)) (toR v [] to) ∧ Keep K H0 H') := by
  refine W.loop_inv (Q := fun e a H' => e = .exit 0 ∧ a.ds = [] ∧ tget a.t (Pos.ofNat 0) = .int .i64 v ∧ tget a.t (Pos.ofNat 2) = x ∧ GI K H' (tget a.t (Pos.ofNat 7)) (toR v [] to) ∧ Keep K H0 H') _ ?_
  rintro n t H ⟨i, hi, h0, h1, h2, h8, h7, hk⟩
  have hyk := hy.keep hk hNK
  refine W.seq (W.seq (W.region ?_))
  simp (maxDischargeDepth := 9) only [auW, auC, auT, lget, BEq.rfl, beq_self_eq_true, decide_true, decide_false, reduceCtorEq, Nat.reduceLT, Nat.reduceEqDiff, ↓reduceIte, g9r3, h1, h8, (IReads.fLen hyk)]
  refine W.cond_if (p := i < to.length) (by simp [AOpnd.ev, tget_puts]) (fun hlt => W.skip ?_) (fun hge => W.exit ?_)
  rotate_left
  · rw [List.take_of_length_le (by omega)] at h7
    refine ⟨by trivial, by trivial, ?_, ?_, ?_, hk⟩
    · simp only [tget_puts, Nat.reduceLT, Nat.reduceEqDiff, ↓reduceIte, h0]
    · simp only [tget_puts, Nat.reduceLT, Nat.reduceEqDiff, ↓reduceIte, h2]
    · simp only [tget_puts, Nat.reduceLT, Nat.reduceEqDiff, ↓reduceIte]
      exact h7
  simp only [andThen]
  obtain ⟨bx, ox, e1, e2⟩ := IReads.fIdx hyk hlt
  have hsn : toR v [] (to.take (i + 1)) = (match eqI to[i] v with | true => toR v [] (to.take i) | false => withR to[i] true (toR v [] (to.take i))) := by
    rw [List.take_succ_eq_append_getElem hlt, toR_snoc]
    try (cases eqI to[i] v <;> rfl)
  have htl := toR_take (v := v) (to := to) (i := i) (by omega)
  refine W.seq (W.block (W.seq (W.region ?_)))
  cases he : eqI to[i] v with
  | true =>
    rw [he] at hsn
    have hz : binOpA .neq (.int .i64 to[i]) (.int .i64 v) = some (.bool false) := by rw [z_neq, he]; rfl
    simp (maxDischargeDepth := 9) only [auW, auC, auT, lget, BEq.rfl, beq_self_eq_true, decide_true, decide_false, reduceCtorEq, Nat.reduceLT, Nat.reduceEqDiff, ↓reduceIte, g9r4, h0, h1, h8, e1, fLoad1, e2, hz]
    simp only [andThen]
    refine W.cond_false (by simp [AOpnd.ev, tget_puts]) (W.skip ?_)
    simp only [andThen, inBlock]
    refine W.region ?_
    simp (maxDischargeDepth := 9) only [auW, auC, auT, lget, BEq.rfl, beq_self_eq_true, decide_true, decide_false, reduceCtorEq, Nat.reduceLT, Nat.reduceEqDiff, ↓reduceIte, g9r6, h8, b_add (show i + 1 ≤ 9223372036854775807 by omega)]
    refine ⟨by trivial, n - 1, by omega, i + 1, by omega, ?_, ?_, ?_, ?_, ?_, hk⟩
    · simp only [tget_puts, Nat.reduceLT, Nat.reduceEqDiff, ↓reduceIte, h0]
    · simp only [tget_puts, Nat.reduceLT, Nat.reduceEqDiff, ↓reduceIte, h1]
    · simp only [tget_puts, Nat.reduceLT, Nat.reduceEqDiff, ↓reduceIte, h2]
    · simp only [tget_puts, Nat.reduceLT, Nat.reduceEqDiff, ↓reduceIte]
    · simp only [tget_puts, Nat.reduceLT, Nat.reduceEqDiff, ↓reduceIte]
      rw [hsn]
      exact h7
  | false =>
    rw [he] at hsn
    have hz : binOpA .neq (.int .i64 to[i]) (.int .i64 v) = some (.bool true) := by rw [z_neq, he]; rfl
    simp (maxDischargeDepth := 9) only [auW, auC, auT, lget, BEq.rfl, beq_self_eq_true, decide_true, decide_false, reduceCtorEq, Nat.reduceLT, Nat.reduceEqDiff, ↓reduceIte, g9r4, h0, h1, h8, e1, fLoad1, e2, hz]
    simp only [andThen]
    refine W.cond_true (by simp [AOpnd.ev, tget_puts]) (W.region ?_)
    obtain ⟨v', H2, hc, hg, k2⟩ := with_ok C to[i] true h7 (by omega)
    have hKH := Nat.le_trans hK hk.nx
    simp (maxDischargeDepth := 9) only [auW, auC, auT, lget, BEq.rfl, beq_self_eq_true, decide_true, decide_false, reduceCtorEq, Nat.reduceLT, Nat.reduceEqDiff, ↓reduceIte, g9r5, h1, h8, e1, fLoad1, e2]
    refine wo_callE hc (by simp only [auT, Nat.reduceLT, Nat.reduceEqDiff, ↓reduceIte]; try rfl) ?_
    simp (maxDischargeDepth := 9) only [auW, auC, auT, lget, BEq.rfl, beq_self_eq_true, decide_true, decide_false, reduceCtorEq, Nat.reduceLT, Nat.reduceEqDiff, ↓reduceIte]
    simp only [andThen, inBlock]
    refine W.region ?_
    simp (maxDischargeDepth := 9) only [auW, auC, auT, lget, BEq.rfl, beq_self_eq_true, decide_true, decide_false, reduceCtorEq, Nat.reduceLT, Nat.reduceEqDiff, ↓reduceIte, g9r6, h8, b_add (show i + 1 ≤ 9223372036854775807 by omega)]
    refine ⟨by trivial, n - 1, by omega, i + 1, by omega, ?_, ?_, ?_, ?_, ?_, hk.trans (k2.mono hKH)⟩
    · simp only [tget_puts, Nat.reduceLT, Nat.reduceEqDiff, ↓reduceIte, h0]
    · simp only [tget_puts, Nat.reduceLT, Nat.reduceEqDiff, ↓reduceIte, h1]
    · simp only [tget_puts, Nat.reduceLT, Nat.reduceEqDiff, ↓reduceIte, h2]
    · simp only [tget_puts, Nat.reduceLT, Nat.reduceEqDiff, ↓reduceIte]
    · simp only [tget_puts, Nat.reduceLT, Nat.reduceEqDiff, ↓reduceIte]
      rw [hsn]
      rcases hg with h | ⟨bb, q1, q2, q3, q4⟩
      · exact .inl h
      · exact .inr ⟨bb, q1, q2, Nat.le_trans hKH q3, q4⟩
theorem step_v (C : CodeOkM E) {N K i : Nat} {t : PT AVal} {H : AHeap} {x : AVal} {v : Int} {ts : List Trp} {m : List Int} (h0 : tget t (Pos.ofNat 0) = .int .i64 v) (h2 : tget t (Pos.ofNat 2) = x) (h9 : tget t (Pos.ofNat 9) = .int .i64 (.ofNat i)) (hx : TReads N H x ts) (hi : i < ts.length) (hm : GI K H (tget t (Pos.ofNat 7)) m) (hK : K ≤ H.nx.toNat) (hl : m.length ≤ 4000000) {ro : Option Pos} :
    W E (.draw g9d12) ro ⟨t, []⟩ H (fun e a H' => e = .normal ∧ a.ds = [] ∧ tget a.t (Pos.ofNat 0) = .int .i64 v ∧ tget a.t (Pos.ofNat 2) = x ∧ tget a.t (Pos.ofNat 9) = .int .i64 (.ofNat i) ∧ GI K H' (tget a.t (Pos.ofNat 7)) (withR ts[i].2.1 (!ts[i].2.2) m) ∧ Keep K H H') := by
  obtain ⟨b, o, e1, e2, _⟩ := hx.fIdx hi
  obtain ⟨l0, l1, l2⟩ := cell_at e2
  obtain ⟨v', H2, hc, hg, k2⟩ := with_ok C ts[i].2.1 (!ts[i].2.2) hm hl
  refine W.draw ?_
  simp (maxDischargeDepth := 9) only [auD, auC, auT, lget, BEq.rfl, beq_self_eq_true, decide_true, decide_false, reduceCtorEq, Nat.reduceLT, Nat.reduceEqDiff, ↓reduceIte, g9d12, h2, h9, e1, fLoad1, l0, l1, l2, fUn]
  refine wd_callE hc (by simp only [auT, Nat.reduceLT, Nat.reduceEqDiff, ↓reduceIte]; try rfl) (by repeat (first | exact again_nil' | refine again_skip rfl ?_)) ?_
  simp (maxDischargeDepth := 9) only [auD, auC, auT, lget, BEq.rfl, beq_self_eq_true, decide_true, decide_false, reduceCtorEq, Nat.reduceLT, Nat.reduceEqDiff, ↓reduceIte]
  refine ⟨by trivial, by trivial, ?_, ?_, ?_, ?_, k2.mono hK⟩
  · simp only [tget_puts, Nat.reduceLT, Nat.reduceEqDiff, ↓reduceIte, h0]
  · simp only [tget_puts, Nat.reduceLT, Nat.reduceEqDiff, ↓reduceIte, h2]
  · simp only [tget_puts, Nat.reduceLT, Nat.reduceEqDiff, ↓reduceIte, h9]
  · try (simp only [tget_puts, Nat.reduceLT, Nat.reduceEqDiff, ↓reduceIte])
    rcases hg with h | ⟨bb, q1, q2, q3, q4⟩
    · exact .inl h
    · exact .inr ⟨bb, q1, q2, Nat.le_trans hK q3, q4⟩
theorem step_u (C : CodeOkM E) {N K i : Nat} {t : PT AVal} {H : AHeap} {x : AVal} {v : Int} {ts : List Trp} {m : List Int} (h0 : tget t (Pos.ofNat 0) = .int .i64 v) (h2 : tget t (Pos.ofNat 2) = x) (h9 : tget t (Pos.ofNat 9) = .int .i64 (.ofNat i)) (hx : TReads N H x ts) (hi : i < ts.length) (hm : GI K H (tget t (Pos.ofNat 7)) m) (hK : K ≤ H.nx.toNat) (hl : m.length ≤ 4000000) {ro : Option Pos} :
    W E (.draw g9d14) ro ⟨t, []⟩ H (fun e a H' => e = .normal ∧ a.ds = [] ∧ tget a.t (Pos.ofNat 0) = .int .i64 v ∧ tget a.t (Pos.ofNat 2) = x ∧ tget a.t (Pos.ofNat 9) = .int .i64 (.ofNat i) ∧ GI K H' (tget a.t (Pos.ofNat 7)) (withR ts[i].1 (!ts[i].2.2) m) ∧ Keep K H H') := by
  obtain ⟨b, o, e1, e2, _⟩ := hx.fIdx hi
  obtain ⟨l0, l1, l2⟩ := cell_at e2
  obtain ⟨v', H2, hc, hg, k2⟩ := with_ok C ts[i].1 (!ts[i].2.2) hm hl
  refine W.draw ?_
  simp (maxDischargeDepth := 9) only [auD, auC, auT, lget, BEq.rfl, beq_self_eq_true, decide_true, decide_false, reduceCtorEq, Nat.reduceLT, Nat.reduceEqDiff, ↓reduceIte, g9d14, h2, h9, e1, fLoad1, l0, l1, l2, fUn]
  refine wd_callE hc (by simp only [auT, Nat.reduceLT, Nat.reduceEqDiff, ↓reduceIte]; try rfl) (by repeat (first | exact again_nil' | refine again_skip rfl ?_)) ?_
  simp (maxDischargeDepth := 9) only [auD, auC, auT, lget, BEq.rfl, beq_self_eq_true, decide_true, decide_false, reduceCtorEq, Nat.reduceLT, Nat.reduceEqDiff, ↓reduceIte]
  refine ⟨by trivial, by trivial, ?_, ?_, ?_, ?_, k2.mono hK⟩
  · simp only [tget_puts, Nat.reduceLT, Nat.reduceEqDiff, ↓reduceIte, h0]
  · simp only [tget_puts, Nat.reduceLT, Nat.reduceEqDiff, ↓reduceIte, h2]
  · simp only [tget_puts, Nat.reduceLT, Nat.reduceEqDiff, ↓reduceIte, h9]
  · try (simp only [tget_puts, Nat.reduceLT, Nat.reduceEqDiff, ↓reduceIte])
    rcases hg with h | ⟨bb, q1, q2, q3, q4⟩
    · exact .inl h
    · exact .inr ⟨bb, q1, q2, Nat.le_trans hK q3, q4⟩

abbrev g931body : ACode := .seq (.seq (.draw g9d10) (.cond (.t (Pos.ofNat 44)) (.exit 3) .skip)) (.seq (.seq (.region g9r11) (.cond (.t (Pos.ofNat 51)) (.draw g9d12) .skip)) (.seq (.region g9r13) (.cond (.t (Pos.ofNat 71)) (.draw g9d14) .skip)))
abbrev StM (K i : Nat) (x : AVal) (v : Int) (m : List Int) (t : PT AVal) (H H' : AHeap) : Prop := tget t (Pos.ofNat 0) = .int .i64 v ∧ tget t (Pos.ofNat 2) = x ∧ tget t (Pos.ofNat 9) = .int .i64 (.ofNat i) ∧ GI K H' (tget t (Pos.ofNat 7)) m ∧ Keep K H H'
/-- The second end of a change. -/
theorem merge_half (C : CodeOkM E) {N K i : Nat} {t : PT AVal} {H H1 : AHeap} {x : AVal} {v : Int} {ts : List Trp} {m : List Int} (hs : StM K i x v m t H H1) (hx : TReads N H1 x ts) (hi : i < ts.length) (hK : K ≤ H1.nx.toNat) (hl : m.length ≤ 4000000) {ro : Option Pos} :
    W E (.seq (.region g9r13) (.cond (.t (Pos.ofNat 71)) (.draw g9d14) .skip)) ro ⟨t, []⟩ H1 (fun e a H' => e = .normal ∧ a.ds = [] ∧ StM K i x v (match eqI ts[i].2.1 v with | true => withR ts[i].1 (!ts[i].2.2) m | false => m) a.t H H') := by
  obtain ⟨h0, h2, h9, h7, hk⟩ := hs
  obtain ⟨b, o, e1, e2, _⟩ := hx.fIdx hi
  obtain ⟨l0, l1, l2⟩ := cell_at e2
  refine W.seq (W.region ?_)
  cases he : eqI ts[i].2.1 v with
  | true =>
    have hz : binOpA .eql (.int .i64 ts[i].2.1) (.int .i64 v) = some (.bool true) := by rw [z_eql, he]
    simp (maxDischargeDepth := 9) only [auW, auC, auT, lget, BEq.rfl, beq_self_eq_true, decide_true, decide_false, reduceCtorEq, Nat.reduceLT, Nat.reduceEqDiff, ↓reduceIte, g9r13, h0, h2, h9, e1, fLoad1, l1, hz]
    simp only [andThen]
    refine W.cond_true (by simp [AOpnd.ev, tget_puts]) (W.mono (step_u C (v := v) (x := x) (m := m) ?_ ?_ ?_ hx hi ?_ hK hl) ?_)
    · simp only [tget_puts, Nat.reduceLT, Nat.reduceEqDiff, ↓reduceIte, h0]
    · simp only [tget_puts, Nat.reduceLT, Nat.reduceEqDiff, ↓reduceIte, h2]
    · simp only [tget_puts, Nat.reduceLT, Nat.reduceEqDiff, ↓reduceIte, h9]
    · simp only [tget_puts, Nat.reduceLT, Nat.reduceEqDiff, ↓reduceIte]
      exact h7
    rintro e a H2 ⟨rfl, hd, q0, q2, q9, q7, k2⟩
    exact ⟨rfl, hd, q0, q2, q9, q7, hk.trans k2⟩
  | false =>
    have hz : binOpA .eql (.int .i64 ts[i].2.1) (.int .i64 v) = some (.bool false) := by rw [z_eql, he]
    simp (maxDischargeDepth := 9) only [auW, auC, auT, lget, BEq.rfl, beq_self_eq_true, decide_true, decide_false, reduceCtorEq, Nat.reduceLT, Nat.reduceEqDiff, ↓reduceIte, g9r13, h0, h2, h9, e1, fLoad1, l1, hz]
    simp only [andThen]
    refine W.cond_false (by simp [AOpnd.ev, tget_puts]) (W.skip ?_)
    refine ⟨by trivial, by trivial, ?_, ?_, ?_, ?_, hk⟩
    · simp only [tget_puts, Nat.reduceLT, Nat.reduceEqDiff, ↓reduceIte, h0]
    · simp only [tget_puts, Nat.reduceLT, Nat.reduceEqDiff, ↓reduceIte, h2]
    · simp only [tget_puts, Nat.reduceLT, Nat.reduceEqDiff, ↓reduceIte, h9]
    · simp only [tget_puts, Nat.reduceLT, Nat.reduceEqDiff, ↓reduceIte]
      exact h7
theorem merge_round2 (C : CodeOkM E) {N K i : Nat} {t : PT AVal} {H : AHeap} {x : AVal} {v : Int} {ts : List Trp} {m : List Int} (h0 : tget t (Pos.ofNat 0) = .int .i64 v) (h2 : tget t (Pos.ofNat 2) = x) (h9 : tget t (Pos.ofNat 9) = .int .i64 (.ofNat i)) (hm : GI K H (tget t (Pos.ofNat 7)) m) (hx : TReads N H x ts) (hNK : N ≤ K) (hi : i < ts.length) (hK : K ≤ H.nx.toNat) (hl : m.length ≤ 3999999) {ro : Option Pos} :
    W E g931body ro ⟨t, []⟩ H (fun e a H' => (e = .normal ∨ e = .exit 3) ∧ a.ds = [] ∧ StM K i x v (stepR v m ts[i]) a.t H H') := by
  obtain ⟨b, o, e1, e2, _⟩ := hx.fIdx hi
  obtain ⟨l0, l1, l2⟩ := cell_at e2
  refine W.seq (W.seq (W.draw ?_))
  cases he : eqI ts[i].1 ts[i].2.1 with
  | true =>
    have hz : binOpA .eql (.int .i64 ts[i].1) (.int .i64 ts[i].2.1) = some (.bool true) := by rw [z_eql, he]
    have hst : stepR v m ts[i] = m := by unfold stepR; rw [he]
    rw [hst]
    simp (maxDischargeDepth := 9) only [auD, auC, auT, lget, BEq.rfl, beq_self_eq_true, decide_true, decide_false, reduceCtorEq, Nat.reduceLT, Nat.reduceEqDiff, ↓reduceIte, g9d10, h2, h9, e1, fLoad1, l0, l1, hz]
    simp only [andThen]
    refine W.cond_true (by simp [AOpnd.ev, tget_puts]) (W.exit ?_)
    simp only [andThen]
    refine ⟨.inr (by trivial), by trivial, ?_, ?_, ?_, ?_, Keep.refl _ _⟩
    · simp only [tget_puts, Nat.reduceLT, Nat.reduceEqDiff, ↓reduceIte, h0]
    · simp only [tget_puts, Nat.reduceLT, Nat.reduceEqDiff, ↓reduceIte, h2]
    · simp only [tget_puts, Nat.reduceLT, Nat.reduceEqDiff, ↓reduceIte, h9]
    · simp only [tget_puts, Nat.reduceLT, Nat.reduceEqDiff, ↓reduceIte]
      exact hm
  | false =>
    have hz : binOpA .eql (.int .i64 ts[i].1) (.int .i64 ts[i].2.1) = some (.bool false) := by rw [z_eql, he]
    have hst : stepR v m ts[i] = (match eqI ts[i].2.1 v with | true => withR ts[i].1 (!ts[i].2.2) (match eqI ts[i].1 v with | true => withR ts[i].2.1 (!ts[i].2.2) m | false => m) | false => (match eqI ts[i].1 v with | true => withR ts[i].2.1 (!ts[i].2.2) m | false => m)) := by
      unfold stepR
      rw [he]
      cases eqI ts[i].1 v <;> cases eqI ts[i].2.1 v <;> rfl
    rw [hst]
    simp (maxDischargeDepth := 9) only [auD, auC, auT, lget, BEq.rfl, beq_self_eq_true, decide_true, decide_false, reduceCtorEq, Nat.reduceLT, Nat.reduceEqDiff, ↓reduceIte, g9d10, h2, h9, e1, fLoad1, l0, l1, hz]
    simp only [andThen]
    refine W.cond_false (by simp [AOpnd.ev, tget_puts]) (W.skip ?_)
    simp only [andThen]
    refine W.seq (W.seq (W.region ?_))
    cases hf : eqI ts[i].1 v with
    | true =>
      have hz2 : binOpA .eql (.int .i64 ts[i].1) (.int .i64 v) = some (.bool true) := by rw [z_eql, hf]
      simp (maxDischargeDepth := 9) only [auW, auC, auT, lget, BEq.rfl, beq_self_eq_true, decide_true, decide_false, reduceCtorEq, Nat.reduceLT, Nat.reduceEqDiff, ↓reduceIte, g9r11, h0, h2, h9, e1, fLoad1, l0, hz2]
      simp only [andThen]
      refine W.cond_true (by simp [AOpnd.ev, tget_puts]) (W.mono (step_v C (v := v) (x := x) (m := m) ?_ ?_ ?_ hx hi ?_ hK (by omega)) ?_)
      · simp only [tget_puts, Nat.reduceLT, Nat.reduceEqDiff, ↓reduceIte, h0]
      · simp only [tget_puts, Nat.reduceLT, Nat.reduceEqDiff, ↓reduceIte, h2]
      · simp only [tget_puts, Nat.reduceLT, Nat.reduceEqDiff, ↓reduceIte, h9]
      · simp only [tget_puts, Nat.reduceLT, Nat.reduceEqDiff, ↓reduceIte]
        exact hm
      rintro e ⟨t2, ds⟩ H2 ⟨rfl, hd, q0, q2, q9, q7, k2⟩
      have hd : ds = [] := hd
      subst hd
      simp only [andThen]
      have hw := withR_length ts[i].2.1 (!ts[i].2.2) m
      refine W.mono (merge_half C (H := H) ⟨q0, q2, q9, q7, k2⟩ (hx.keep k2 hNK) hi (Nat.le_trans hK k2.nx) (by omega)) ?_
      rintro e a H3 ⟨rfl, hd, hs⟩
      exact ⟨.inl rfl, hd, hs⟩
    | false =>
      have hz2 : binOpA .eql (.int .i64 ts[i].1) (.int .i64 v) = some (.bool false) := by rw [z_eql, hf]
      simp (maxDischargeDepth := 9) only [auW, auC, auT, lget, BEq.rfl, beq_self_eq_true, decide_true, decide_false, reduceCtorEq, Nat.reduceLT, Nat.reduceEqDiff, ↓reduceIte, g9r11, h0, h2, h9, e1, fLoad1, l0, hz2]
      simp only [andThen]
      refine W.cond_false (by simp [AOpnd.ev, tget_puts]) (W.skip ?_)
      simp only [andThen]
      refine W.mono (merge_half C (H := H) (x := x) (v := v) (m := m) (i := i) (K := K) ⟨?_, ?_, ?_, ?_, Keep.refl _ _⟩ hx hi hK (by omega)) ?_
      · simp only [tget_puts, Nat.reduceLT, Nat.reduceEqDiff, ↓reduceIte, h0]
      · simp only [tget_puts, Nat.reduceLT, Nat.reduceEqDiff, ↓reduceIte, h2]
      · simp only [tget_puts, Nat.reduceLT, Nat.reduceEqDiff, ↓reduceIte, h9]
      · simp only [tget_puts, Nat.reduceLT, Nat.reduceEqDiff, ↓reduceIte]
        exact hm
      rintro e a H3 ⟨rfl, hd, hs⟩
      exact ⟨.inl rfl, hd, hs⟩
theorem ts_loop (C : CodeOkM E) {N K : Nat} {H0 : AHeap} {x : AVal} {v : Int} {ts : List Trp} {m : List Int} (hx : TReads N H0 x ts) (hNK : N ≤ K) (hK : K ≤ H0.nx.toNat) (hl : ts.length ≤ 1000000) (hm : m.length ≤ 1000000) {ro : Option Pos} :
    ∀ (n : Nat) (t : PT AVal) (H : AHeap), (∃ i, i + n = ts.length ∧ StM K i x v (refM v m (ts.take i)) t H0 H) →
    W E (.loop g9l16) ro ⟨t, []⟩ H (fun e a H' => e = .exit 2 ∧ a.ds = [] ∧ GI K H' (tget a.t (Pos.ofNat 7)) (refM v m ts) ∧ Keep K H0 H') := by
  refine W.loop_inv (Q := fun e a H' => e = .exit 2 ∧ a.ds = [] ∧ GI K H' (tget a.t (Pos.ofNat 7)) (refM v m ts) ∧ Keep K H0 H') _ ?_
  rintro n t H ⟨i, hi, h0, h2, h9, h7, hk⟩
  have hxk := hx.keep hk hNK
  refine W.seq (W.seq (W.region ?_))
  simp (maxDischargeDepth := 9) only [auW, auC, auT, lget, BEq.rfl, beq_self_eq_true, decide_true, decide_false, reduceCtorEq, Nat.reduceLT, Nat.reduceEqDiff, ↓reduceIte, g9r9, h2, h9, hxk.fLen]
  refine W.cond_if (p := i < ts.length) (by simp [AOpnd.ev, tget_puts]) (fun hlt => W.skip ?_) (fun hge => W.exit ?_)
  rotate_left
  · rw [List.take_of_length_le (by omega)] at h7
    refine ⟨by trivial, by trivial, ?_, hk⟩
    simp only [tget_puts, Nat.reduceLT, Nat.reduceEqDiff, ↓reduceIte]
    exact h7
  simp only [andThen]
  have htl := refM_take (v := v) (m := m) (ts := ts) (i := i) (by omega)
  refine W.seq (W.block (W.mono (merge_round2 C (K := K) (i := i) (x := x) (v := v) (m := refM v m (ts.take i)) ?_ ?_ ?_ ?_ hxk hNK hlt (Nat.le_trans hK hk.nx) (by omega)) ?_))
  · simp only [tget_puts, Nat.reduceLT, Nat.reduceEqDiff, ↓reduceIte, h0]
  · simp only [tget_puts, Nat.reduceLT, Nat.reduceEqDiff, ↓reduceIte, h2]
  · simp only [tget_puts, Nat.reduceLT, Nat.reduceEqDiff, ↓reduceIte, h9]
  · simp only [tget_puts, Nat.reduceLT, Nat.reduceEqDiff, ↓reduceIte]
    exact h7
  rintro e ⟨t2, ds⟩ H2 ⟨he, hd, q0, q2, q9, q7, k2⟩
  have hd : ds = [] := hd
  subst hd
  have q0 : tget t2 (Pos.ofNat 0) = .int .i64 v := q0
  have q2 : tget t2 (Pos.ofNat 2) = x := q2
  have q9 : tget t2 (Pos.ofNat 9) = .int .i64 (.ofNat i) := q9
  have hgoal : W E (.region g9r15) ro ⟨t2, []⟩ H2 (loopPost [] (fun n t H => ∃ i, i + n = ts.length ∧ StM K i x v (refM v m (ts.take i)) t H0 H) (fun e a H' => e = .exit 2 ∧ a.ds = [] ∧ GI K H' (tget a.t (Pos.ofNat 7)) (refM v m ts) ∧ Keep K H0 H') n) := by
    refine W.region ?_
    simp (maxDischargeDepth := 9) only [auW, auC, auT, lget, BEq.rfl, beq_self_eq_true, decide_true, decide_false, reduceCtorEq, Nat.reduceLT, Nat.reduceEqDiff, ↓reduceIte, g9r15, q9, b_add (show i + 1 ≤ 9223372036854775807 by omega)]
    refine ⟨by trivial, n - 1, by omega, i + 1, by omega, ?_, ?_, ?_, ?_, hk.trans k2⟩
    · simp only [tget_puts, Nat.reduceLT, Nat.reduceEqDiff, ↓reduceIte, q0]
    · simp only [tget_puts, Nat.reduceLT, Nat.reduceEqDiff, ↓reduceIte, q2]
    · simp only [tget_puts, Nat.reduceLT, Nat.reduceEqDiff, ↓reduceIte]
    · simp only [tget_puts, Nat.reduceLT, Nat.reduceEqDiff, ↓reduceIte]
      rw [List.take_succ_eq_append_getElem hlt, refM_snoc]
      exact q7
  rcases he with rfl | rfl <;> exact hgoal
/-- The reference's Merge. -/
theorem rmerge_ok (C : CodeOkM E) {N : Nat} {H : AHeap} {x y : AVal} {to : List Int} {ts : List Trp} (v : Int) (hy : Reads N H y (intVals to)) (hx : TReads N H x ts) (hN : N ≤ H.nx.toNat) (hl : ts.length ≤ 1000000) (hl2 : to.length ≤ 1000000) :
    ∃ w H', CallS E 9 [.int .i64 v, y, x] H w H' ∧ GI H.nx.toNat H' w (refM v (toR v [] to) ts) ∧ Keep H.nx.toNat H H' := by
  refine CallS.by (R := fun w H' => GI H.nx.toNat H' w (refM v (toR v [] to) ts) ∧ Keep H.nx.toNat H H') (t0 := tput (tput (tput .l (some (Pos.ofNat 0)) (.int .i64 v)) (some (Pos.ofNat 1)) y) (some (Pos.ofNat 2)) x) (C.s _ rfl) rfl C.f9 rfl ?_
  refine W.seq (W.region ?_)
  simp (maxDischargeDepth := 9) only [auW, auC, auT, lget, BEq.rfl, beq_self_eq_true, decide_true, decide_false, reduceCtorEq, Nat.reduceLT, Nat.reduceEqDiff, ↓reduceIte, g9r0]
  refine W.seq (W.region ?_)
  simp (maxDischargeDepth := 9) only [auW, auC, auT, lget, BEq.rfl, beq_self_eq_true, decide_true, decide_false, reduceCtorEq, Nat.reduceLT, Nat.reduceEqDiff, ↓reduceIte, g9r1]
  refine W.seq (W.seq (W.region ?_))
  simp (maxDischargeDepth := 9) only [auW, auC, auT, lget, BEq.rfl, beq_self_eq_true, decide_true, decide_false, reduceCtorEq, Nat.reduceLT, Nat.reduceEqDiff, ↓reduceIte, g9r2]
  simp only [andThen]
  refine W.block (W.mono (to_loop C (K := H.nx.toNat) (x := x) (v := v) hy hN (Nat.le_refl _) hl2 to.length _ _ ⟨0, by omega, ?_, ?_, ?_, ?_, ?_, Keep.refl _ _⟩) ?_)
  · simp only [tget_puts, Nat.reduceLT, Nat.reduceEqDiff, ↓reduceIte]
  · simp only [tget_puts, Nat.reduceLT, Nat.reduceEqDiff, ↓reduceIte]
  · simp only [tget_puts, Nat.reduceLT, Nat.reduceEqDiff, ↓reduceIte]
  · simp only [tget_puts, Nat.reduceLT, Nat.reduceEqDiff, ↓reduceIte]
  · simp only [tget_puts, Nat.reduceLT, Nat.reduceEqDiff, ↓reduceIte]
    exact .inl ⟨rfl, rfl⟩
  rintro e ⟨t1, ds⟩ H1 ⟨rfl, hd, q0, q2, q7, k1⟩
  have hd : ds = [] := hd
  subst hd
  have q0 : tget t1 (Pos.ofNat 0) = .int .i64 v := q0
  have q2 : tget t1 (Pos.ofNat 2) = x := q2
  simp only [inBlock, beq_t, andThen]
  have htl := toR_take (v := v) (to := to) (i := to.length) (Nat.le_refl _)
  rw [List.take_length] at htl
  refine W.seq (W.seq (W.region ?_))
  simp (maxDischargeDepth := 9) only [auW, auC, auT, lget, BEq.rfl, beq_self_eq_true, decide_true, decide_false, reduceCtorEq, Nat.reduceLT, Nat.reduceEqDiff, ↓reduceIte, g9r8]
  simp only [andThen]
  refine W.block (W.mono (ts_loop C (K := H.nx.toNat) (v := v) (m := toR v [] to) (H0 := H1) (hx.keep k1 hN) hN k1.nx hl (by omega) ts.length _ _ ⟨0, by omega, ?_, ?_, ?_, ?_, Keep.refl _ _⟩) ?_)
  · simp only [tget_puts, Nat.reduceLT, Nat.reduceEqDiff, ↓reduceIte, q0]
  · simp only [tget_puts, Nat.reduceLT, Nat.reduceEqDiff, ↓reduceIte, q2]
  · simp only [tget_puts, Nat.reduceLT, Nat.reduceEqDiff, ↓reduceIte]
  · simp only [tget_puts, Nat.reduceLT, Nat.reduceEqDiff, ↓reduceIte]
    exact q7
  rintro e ⟨t2, ds⟩ H2 ⟨rfl, hd, r7, k2⟩
  have hd : ds = [] := hd
  subst hd
  simp only [inBlock, beq_t, andThen]
  refine W.seq (W.region ?_)
  simp (maxDischargeDepth := 9) only [auW, auC, auT, lget, BEq.rfl, beq_self_eq_true, decide_true, decide_false, reduceCtorEq, Nat.reduceLT, Nat.reduceEqDiff, ↓reduceIte, g9r17]
  simp only [andThen]
  refine W.ret ⟨.inr rfl, rfl, tget t2 (Pos.ofNat 7), ?_, r7, k1.trans k2⟩
  simp [resultA, g9, tget_puts]
end
end Go.Am
end

section
namespace Go.Am
open Go Go.RowKit
theorem append_ifull {H : AHeap} {b : Pos} {l : List Int} {x : AVal} {z : Int} {op ro : Bool} (hb : PT.get b H.t = some (.cells (intVals l) op ro)) (hl : l.length ≤ 1000000) (hx : srcCells H 1 x = some (1, [.int .i64 z])) :
    appendA H 1 8 (.sl b 0 l.length l.length 0) x = some (.sl H.nx 0 (l.length + 1) (l.length + 1) 1, (H.new (.cells (intVals (l ++ [z])) true false)).2) := by
  unfold appendA
  rw [hx]
  have e1 : Nat.ble (Nat.add l.length 1) l.length = false := ble_f (by show l.length < l.length + 1; omega)
  have e2 : hloadN H b 0 (Nat.mul l.length 1) = some (intVals l) := by
    rw [hloadN_at hb (by rw [intVals_length]; show 0 + l.length * 1 ≤ _; omega), List.drop_zero, List.take_of_length_le (by rw [intVals_length]; show l.length ≤ l.length * 1; omega)]
  have e3 : Nat.ble (Nat.mul (Nat.mul (Nat.add l.length 1) 2) 8) 281474976710656 = true := ble_t (by show (l.length + 1) * 2 * 8 ≤ _; omega)
  simp only [e1, e2, e3, intVals_append]
  rfl
theorem slice_pre1 {t : PT AVal} {Y : AOpnd} {b : Pos} {len cap k : Nat} (hY : Y.ev t = .int .i64 (.ofNat k)) (hk : k ≤ cap) : sliceA t (.sl 1) (.sl b 0 len cap 1) none (some Y) none = some (.sl b 0 k cap 1) := by
  have e1 : Nat.ble k cap = true := ble_t hk
  have e2 : Nat.ble 0 k = true := ble_t (Nat.zero_le _)
  simp only [sliceA, boundOf, hY, natOf, e1, e2, nsub]
  rfl
theorem ilent_reads {H : AHeap} {b : Pos} {l : List Int} {z : Int} {op ro : Bool} (hb : PT.get b H.t = some (.cells (intVals (l ++ [z])) op ro)) {K : Nat} (hK : b.toNat < K) : Reads K H (.sl b 0 l.length (l.length + 1) 1) (intVals l) := by
  refine .inr ⟨b, 0, l.length + 1, 1, by rw [intVals_length], ?_, hK, .inr rfl, by rw [intVals_length]; omega⟩
  rw [hloadN_at hb (by rw [intVals_length, intVals_length, List.length_append]; omega), List.drop_zero, intVals_append]
  simp
theorem mres_reads {H : AHeap} {b : Pos} {l : List Int} {zs : List AVal} {op ro : Bool} (hb : PT.get b H.t = some (.cells (intVals l ++ zs) op ro)) {K : Nat} (hK : b.toNat < K) : Reads K H (.sl b 0 l.length l.length 0) (intVals l) := by
  refine .inr ⟨b, 0, l.length, 0, by rw [intVals_length], ?_, hK, .inl rfl, by rw [intVals_length]; omega⟩
  rw [hloadN_at hb (by rw [List.length_append, intVals_length]; omega), List.drop_zero]
  simp
section
variable {E : Env}
/-- **The law**: Merge of any vertex, any list, any changes. -/
theorem mlaw_ok (C : CodeOkM E) {N : Nat} {H : AHeap} {x y : AVal} {to : List Int} {ts : List Trp} (v : Int) (hy : Reads N H y (intVals to)) (hx : TReads N H x ts) (hN : N ≤ H.nx.toNat) (hfirst : CallS E 4 [] H (.bool true) H) : ∃ H', CallS E 3 [.int .i64 v, y, x] H (.bool true) H' := by
  suffices h : ∃ w H', CallS E 3 [.int .i64 v, y, x] H w H' ∧ w = .bool true by obtain ⟨w, H', h, rfl⟩ := h; exact ⟨H', h⟩
  refine CallS.by (R := fun w H' => w = .bool true) (t0 := tput (tput (tput .l (some (Pos.ofNat 0)) (.int .i64 v)) (some (Pos.ofNat 1)) y) (some (Pos.ofNat 2)) x) (C.s _ rfl) rfl C.f3 rfl ?_
  refine W.seq (W.region ?_)
  simp (maxDischargeDepth := 9) only [auW, auC, auT, lget, BEq.rfl, beq_self_eq_true, decide_true, decide_false, reduceCtorEq, Nat.reduceLT, Nat.reduceEqDiff, ↓reduceIte, g3r0]
  simp only [andThen]
  refine W.seq (W.region ?_)
  simp (maxDischargeDepth := 9) only [auW, auC, auT, lget, BEq.rfl, beq_self_eq_true, decide_true, decide_false, reduceCtorEq, Nat.reduceLT, Nat.reduceEqDiff, ↓reduceIte, g3r1]
  refine wo_callE (hfirst) (by simp only [auT, Nat.reduceLT, Nat.reduceEqDiff, ↓reduceIte]) ?_
  simp (maxDischargeDepth := 9) only [auW, auC, auT, lget, BEq.rfl, beq_self_eq_true, decide_true, decide_false, reduceCtorEq, Nat.reduceLT, Nat.reduceEqDiff, ↓reduceIte]
  simp only [andThen]
  have hret : ∀ t : PT AVal, tget t (Pos.ofNat 7) = .bool true → W E (.seq (.region g3r3) .ret) none ⟨t, []⟩ H (fun e a H' => e = .ret ∧ a.ds = [] ∧ tget a.t (Pos.ofNat 6) = .bool true) := by
    intro t h7
    refine W.seq (W.region ?_)
    simp (maxDischargeDepth := 9) only [auW, auC, auT, lget, BEq.rfl, beq_self_eq_true, decide_true, decide_false, reduceCtorEq, Nat.reduceLT, Nat.reduceEqDiff, ↓reduceIte, g3r3, h7]
    simp only [andThen]
    refine W.ret ⟨by trivial, by trivial, ?_⟩
    simp [tget_puts]
  refine W.seq (W.seq (W.region ?_))
  by_cases h1 : 3000 < ts.length
  · simp (maxDischargeDepth := 9) only [auW, auC, auT, lget, BEq.rfl, beq_self_eq_true, decide_true, decide_false, reduceCtorEq, Nat.reduceLT, Nat.reduceEqDiff, ↓reduceIte, g3r2, hx.fLen2, h1, wantUM]
    simp only [andThen]
    refine W.cond_true (by simp [AOpnd.ev, tget_puts]) (W.mono (hret _ ?_) ?_)
    · simp only [tget_puts, Nat.reduceLT, Nat.reduceEqDiff, ↓reduceIte]
    rintro e a H' ⟨rfl, hd, h6⟩
    refine ⟨.inr rfl, hd, .bool true, ?_, rfl⟩
    simp [resultA, g3, h6]
  by_cases h2 : 3000 < to.length
  · simp (maxDischargeDepth := 9) only [auW, auC, auT, lget, BEq.rfl, beq_self_eq_true, decide_true, decide_false, reduceCtorEq, Nat.reduceLT, Nat.reduceEqDiff, ↓reduceIte, g3r2, hx.fLen2, (IReads.fLen hy), h1, h2, wantUM]
    simp only [andThen]
    refine W.cond_true (by simp [AOpnd.ev, tget_puts]) (W.mono (hret _ ?_) ?_)
    · simp only [tget_puts, Nat.reduceLT, Nat.reduceEqDiff, ↓reduceIte]
    rintro e a H' ⟨rfl, hd, h6⟩
    refine ⟨.inr rfl, hd, .bool true, ?_, rfl⟩
    simp [resultA, g3, h6]
  simp (maxDischargeDepth := 9) only [auW, auC, auT, lget, BEq.rfl, beq_self_eq_true, decide_true, decide_false, reduceCtorEq, Nat.reduceLT, Nat.reduceEqDiff, ↓reduceIte, g3r2, hx.fLen2, (IReads.fLen hy), h1, h2, wantUM]
  simp only [andThen]
  refine W.cond_false (by simp [AOpnd.ev, tget_puts]) (W.skip ?_)
  simp only [andThen]
  have hl1 : ts.length ≤ 3000 := by omega
  have hl2 : to.length ≤ 3000 := by omega
  -- what is lent
  obtain ⟨_, H2, hc2, ⟨b, rfl, hb, hb0, hb1⟩, k2⟩ := lent_ok C hx hN (by omega)
  refine W.seq (W.region ?_)
  simp (maxDischargeDepth := 9) only [auW, auC, auT, lget, BEq.rfl, beq_self_eq_true, decide_true, decide_false, reduceCtorEq, Nat.reduceLT, Nat.reduceEqDiff, ↓reduceIte, g3r4]
  refine wo_callE (hc2) (by simp only [auT, Nat.reduceLT, Nat.reduceEqDiff, ↓reduceIte]) ?_
  simp (maxDischargeDepth := 9) only [auW, auC, auT, lget, BEq.rfl, beq_self_eq_true, decide_true, decide_false, reduceCtorEq, Nat.reduceLT, Nat.reduceEqDiff, ↓reduceIte]
  simp only [andThen]
  have hN2 : N ≤ H2.nx.toNat := Nat.le_trans hN k2.nx
  obtain ⟨_, H3, hc3, ⟨b1, rfl, hbi, hbi0, hbi1⟩, k3⟩ := ints_ok C (hy.keep k2 hN) hN2 (by omega)
  refine W.seq (W.region ?_)
  simp (maxDischargeDepth := 9) only [auW, auC, auT, lget, BEq.rfl, beq_self_eq_true, decide_true, decide_false, reduceCtorEq, Nat.reduceLT, Nat.reduceEqDiff, ↓reduceIte, g3r5]
  refine wo_callE (hc3) (by simp only [auT, Nat.reduceLT, Nat.reduceEqDiff, ↓reduceIte]) ?_
  refine wo_buildSlice (fill1 (v := .int .i64 (.ofNat 201)) (by simp [AOpnd.ev]) rfl) ?_
  have hbne : b1 ≠ H3.nx := fun e => by rw [e] at hbi1; omega
  have hbi2 : PT.get b1 (H3.new (.cells [.int .i64 (.ofNat 201)] false false)).2.t = some (.cells (intVals to) false false) := by
    rw [get_new_other hbne]; exact hbi
  refine wo_appendE (append_ifull hbi2 (by omega) src_new) (by simp only [auT, Nat.reduceLT, Nat.reduceEqDiff, ↓reduceIte]; try rfl) (by simp only [auT, Nat.reduceLT, Nat.reduceEqDiff, ↓reduceIte]; try rfl) ?_
  simp (maxDischargeDepth := 9) only [auW, auC, auT, lget, BEq.rfl, beq_self_eq_true, decide_true, decide_false, reduceCtorEq, Nat.reduceLT, Nat.reduceEqDiff, ↓reduceIte]
  simp only [andThen]
  have k4 : Keep H3.nx.toNat H3 (((H3.new (.cells [.int .i64 (.ofNat 201)] false false)).2.new (.cells (intVals (to ++ [.ofNat 201])) true false)).2) := by
    refine keep_new.trans (keep_new.mono ?_)
    show H3.nx.toNat ≤ H3.nx.succ.toNat
    rw [Pos.toNat_succ]; omega
  have g4 : PT.get (H3.new (.cells [.int .i64 (.ofNat 201)] false false)).2.nx (((H3.new (.cells [.int .i64 (.ofNat 201)] false false)).2.new (.cells (intVals (to ++ [.ofNat 201])) true false)).2).t = some (.cells (intVals (to ++ [.ofNat 201])) true false) := get_new
  have n4 : (H3.new (.cells [.int .i64 (.ofNat 201)] false false)).2.nx.toNat = H3.nx.toNat + 1 := by
    show H3.nx.succ.toNat = _
    rw [Pos.toNat_succ]
  have n5 : (((H3.new (.cells [.int .i64 (.ofNat 201)] false false)).2.new (.cells (intVals (to ++ [.ofNat 201])) true false)).2).nx.toNat = H3.nx.toNat + 2 := by
    show H3.nx.succ.succ.toNat = _
    simp only [Pos.toNat_succ]
  generalize (H3.new (.cells [.int .i64 (.ofNat 201)] false false)).2.nx = b2 at g4 n4 ⊢
  generalize ((H3.new (.cells [.int .i64 (.ofNat 201)] false false)).2.new (.cells (intVals (to ++ [.ofNat 201])) true false)).2 = H4 at k4 g4 n5 ⊢
  have h23 := k3.nx
  have h34 := k4.nx
  have kb4 : PT.get b H4.t = some (.cells (tripVals (ts ++ [mark])) true false) := by
    rw [k4.get b (by omega), k3.get b hb1]; exact hb
  have hx4 : TReads N H4 x ts := ((hx.keep k2 hN).keep k3 hN2).keep k4 (by omega)
  have hy4 : Reads N H4 y (intVals to) := ((hy.keep k2 hN).keep k3 hN2).keep k4 (by omega)
  have ht4 : Reads H4.nx.toNat H4 (.sl b2 0 to.length (to.length + 1) 1) (intVals to) := ilent_reads g4 (by omega)
  have hm4 := lent_reads kb4 (K := H4.nx.toNat) (by omega)
  refine W.seq (W.region ?_)
  simp (maxDischargeDepth := 9) only [auW, auC, auT, lget, BEq.rfl, beq_self_eq_true, decide_true, decide_false, reduceCtorEq, Nat.reduceLT, Nat.reduceEqDiff, ↓reduceIte, g3r6, (IReads.fLen hy4)]
  simp only [andThen]
  -- the two merges
  obtain ⟨_, H5, hc5, ⟨b5, zs, rfl, gb5, hb50, hb51⟩, k5⟩ := merge_ok C v ht4 hm4 (Nat.le_refl _) (by omega) (by omega)
  have h45 := k5.nx
  obtain ⟨w6, H6, hc6, hw6, k6⟩ := rmerge_ok C v (hy4.keep k5 (by omega)) (hx4.keep k5 (by omega)) (by omega) (by omega) (by omega)
  have h56 := k6.nx
  have hlen : (refM v (toR v [] to) ts).length ≤ 10000 := by
    have e1 := toR_take (v := v) (to := to) (i := to.length) (Nat.le_refl _)
    have e2 := refM_take (v := v) (m := toR v [] to) (ts := ts) (i := ts.length) (Nat.le_refl _)
    rw [List.take_length] at e1 e2
    omega
  have hr5 : Reads H6.nx.toNat H6 (.sl b5 0 (refM v (toR v [] to) ts).length (refM v (toR v [] to) ts).length 0) (intVals (refM v (toR v [] to) ts)) := ((mres_reads gb5 hb51).keep k6 (Nat.le_refl _)).mono h56
  have hsame := isame_ok C hr5 hw6.reads (by omega)
  have hsl : ∀ t : PT AVal, tget t (Pos.ofNat 37) = .int .i64 (.ofNat to.length) → sliceA t (.sl 1) (.sl b2 0 (to.length + 1) (to.length + 1) 1) none (some (.t (Pos.ofNat 37))) none = some (.sl b2 0 to.length (to.length + 1) 1) := fun t h => slice_pre1 h (by omega)
  refine W.seq (W.region ?_)
  simp (maxDischargeDepth := 9) only [auW, auC, auT, lget, BEq.rfl, beq_self_eq_true, decide_true, decide_false, reduceCtorEq, Nat.reduceLT, Nat.reduceEqDiff, ↓reduceIte, g3r7, hsl]
  refine wo_callE (hc5) (by simp only [auT, Nat.reduceLT, Nat.reduceEqDiff, ↓reduceIte]) ?_
  simp (maxDischargeDepth := 9) only [auW, auC, auT, lget, BEq.rfl, beq_self_eq_true, decide_true, decide_false, reduceCtorEq, Nat.reduceLT, Nat.reduceEqDiff, ↓reduceIte]
  refine wo_callE (hc6) (by simp only [auT, Nat.reduceLT, Nat.reduceEqDiff, ↓reduceIte]) ?_
  refine wo_callE (hsame) (by simp only [auT, Nat.reduceLT, Nat.reduceEqDiff, ↓reduceIte]) ?_
  simp (maxDischargeDepth := 9) only [auW, auC, auT, lget, BEq.rfl, beq_self_eq_true, decide_true, decide_false, reduceCtorEq, Nat.reduceLT, Nat.reduceEqDiff, ↓reduceIte]
  simp only [andThen]
  -- what was handed in stays
  have kb6 : PT.get b H6.t = some (.cells (tripVals (ts ++ [mark])) true false) := by
    rw [k6.get b (by omega), k5.get b (by omega)]; exact kb4
  have g6 : PT.get b2 H6.t = some (.cells (intVals (to ++ [.ofNat 201])) true false) := by
    rw [k6.get b2 (by omega), k5.get b2 (by omega)]; exact g4
  have hx6 : TReads N H6 x ts := (hx4.keep k5 (by omega)).keep k6 (by omega)
  have hy6 : Reads N H6 y (intVals to) := (hy4.keep k5 (by omega)).keep k6 (by omega)
  obtain ⟨_, H7, hc7, rfl, k7⟩ := stays_ok2 C kb6 (hx6.mono (show N ≤ H6.nx.toNat by omega)) (show b.toNat < H6.nx.toNat by omega) (by omega)
  have hbb : b2 ≠ b := fun e => by
    have := congrArg Pos.toNat e
    omega
  have g7 : PT.get b2 H7.t = some (.cells (intVals (to ++ [.ofNat 201])) true false) := by rw [k7 b2 hbb]; exact g6
  have hy7 : Reads N H7 y (intVals to) := by
    rcases hy6 with h | ⟨p, o, cap, sz, e, q1, q2, q3⟩
    · exact .inl h
    · refine .inr ⟨p, o, cap, sz, e, ?_, q2, q3⟩
      unfold hloadN at q1 ⊢
      rw [k7 p (fun e => by rw [e] at q2; omega)]
      exact q1
  have ht7 : Reads (b2.toNat + 1) H7 (.sl b2 0 to.length (to.length + 1) 1) (intVals to) := ilent_reads g7 (Nat.lt_succ_self _)
  have hsame7 := isame_ok C ht7 (hy7.mono (show N ≤ b2.toNat + 1 by omega)) (by omega)
  have hsl7 : ∀ t : PT AVal, tget t (Pos.ofNat 51) = .int .i64 (.ofNat to.length) → sliceA t (.sl 1) (.sl b2 0 (to.length + 1) (to.length + 1) 1) none (some (.t (Pos.ofNat 51))) none = some (.sl b2 0 to.length (to.length + 1) 1) := fun t h => slice_pre1 h (by omega)
  have hidx : fIdxS 1 (.sl b2 0 (to.length + 1) (to.length + 1) 1) (.int .i64 (.ofNat to.length)) = some (.ptr b2 (0 + to.length * 1)) := by
    simp only [fIdxS, natOf, blt_t (Nat.lt_succ_self to.length)]
    rfl
  have hld : hload H7 b2 (0 + to.length * 1) = some (.int .i64 201) := by
    rw [hload_at g7 (by rw [intVals_length, List.length_append, List.length_singleton]; omega)]
    congr 1
    have : (intVals (to ++ [.ofNat 201]))[0 + to.length * 1]? = some (.int .i64 201) := by
      rw [intVals_append, List.getElem?_append_right (by rw [intVals_length]; omega), intVals_length]
      simp [intVals]
    obtain ⟨q1, q2⟩ := List.getElem?_eq_some_iff.1 this
    exact q2
  refine W.seq (W.region ?_)
  simp (maxDischargeDepth := 9) only [auW, auC, auT, lget, BEq.rfl, beq_self_eq_true, decide_true, decide_false, reduceCtorEq, Nat.reduceLT, Nat.reduceEqDiff, ↓reduceIte, g3r8]
  refine wo_callE (hc7) (by simp only [auT, Nat.reduceLT, Nat.reduceEqDiff, ↓reduceIte]) ?_
  simp (maxDischargeDepth := 9) only [auW, auC, auT, lget, BEq.rfl, beq_self_eq_true, decide_true, decide_false, reduceCtorEq, Nat.reduceLT, Nat.reduceEqDiff, ↓reduceIte, hsl7]
  refine wo_callE (hsame7) (by simp only [auT, Nat.reduceLT, Nat.reduceEqDiff, ↓reduceIte]) ?_
  simp (maxDischargeDepth := 9) only [auW, auC, auT, lget, BEq.rfl, beq_self_eq_true, decide_true, decide_false, reduceCtorEq, Nat.reduceLT, Nat.reduceEqDiff, ↓reduceIte, hidx, fLoad1, hld, eq_self]
  simp only [andThen]
  refine W.seq (W.region ?_)
  simp (maxDischargeDepth := 9) only [auW, auC, auT, lget, BEq.rfl, beq_self_eq_true, decide_true, decide_false, reduceCtorEq, Nat.reduceLT, Nat.reduceEqDiff, ↓reduceIte, g3r9]
  simp only [andThen]
  refine W.ret ⟨.inr rfl, rfl, .bool true, ?_, rfl⟩
  simp [resultA, g3, tget_puts]
end
end Go.Am
end
