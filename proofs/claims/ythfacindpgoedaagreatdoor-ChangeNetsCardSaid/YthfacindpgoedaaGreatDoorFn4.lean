/- Part of the proof: AmC11, AmC12, AmC13. -/
import Derived.Test.YthfacindpgoedaaGreatDoorFn3
set_option linter.unusedSimpArgs false
set_option linter.unusedVariables false
section
namespace Go.Am
open Go Go.RowKit
section
variable {E : Env}
theorem wd_buildE {ds : List ADef} {d : Option Pos} {t : PT AVal} {H : AHeap} {ld : List ADraw} {seen : List Seen} {Q : PT AVal → AHeap → Prop} {i₀ b₀ m₀ h₀ : Nat} {z vs : List AVal} {ps : List (Nat × Nat × AOpnd)} (h : fillA z t ps = some vs) (k : WD E ds ld (tput t d (.agg vs)) H (⟨t, .build z ps, .agg vs, b₀⟩ :: seen) Q) : WD E ds (⟨⟨d, .build z ps, none⟩, 0, i₀, b₀, m₀, h₀⟩ :: ld) t H seen Q := by
  refine (wd_build z ps (by rw [h]; rfl)).2 ?_
  rw [h]
  exact k
theorem wantU (c : Bool) : wantV AVal.undef c = some false := rfl
/-- Is it there? -/
theorem hit_draw {i : Nat} {t : PT AVal} {H : AHeap} {K : Nat} {x v : AVal} {m : List Trp} {c : Trp} {bc : Pos} (h0 : tget t (Pos.ofNat 0) = x) (h3 : tget t (Pos.ofNat 3) = v) (h4 : tget t (Pos.ofNat 4) = .int .i64 (.ofNat i)) (h5 : tget t (Pos.ofNat 5) = .ptr bc 0) (h6 : tget t (Pos.ofNat 6) = .int .i64 (.ofNat (loR c m)))
    (hv : TReads K H v m) (c0 : hload H bc (0 + 0) = some (.int .i64 c.1)) (c1 : hload H bc (0 + 1) = some (.int .i64 c.2.1)) {ro : Option Pos} :
    W E (.draw g8d14) ro ⟨t, []⟩ H (fun e a H' => e = .normal ∧ a.ds = [] ∧ H' = H ∧ tget a.t (Pos.ofNat 90) = .bool (hitR c m) ∧ tget a.t (Pos.ofNat 0) = x ∧ tget a.t (Pos.ofNat 3) = v ∧ tget a.t (Pos.ofNat 4) = .int .i64 (.ofNat i) ∧ tget a.t (Pos.ofNat 5) = .ptr bc 0 ∧ tget a.t (Pos.ofNat 6) = .int .i64 (.ofNat (loR c m))) := by
  refine W.draw ?_
  rcases Nat.lt_or_ge (loR c m) m.length with hlt | hge
  · obtain ⟨b, o, e1, e2, _⟩ := hv.fIdx hlt
    obtain ⟨l0, l1, l2⟩ := cell_at e2
    rw [hitR_at hlt]
    generalize m[loR c m] = y at e1 e2 l0 l1 l2
    have d1 : eqI y.1 c.1 = decide (y.1 = c.1) := eqI_dec _ _
    have d2 : eqI y.2.1 c.2.1 = decide (y.2.1 = c.2.1) := eqI_dec _ _
    rw [d1, d2]
    cases g1 : decide (y.1 = c.1) with
    | true =>
      simp (maxDischargeDepth := 9) only [auD, auC, auT, lget, BEq.rfl, beq_self_eq_true, decide_true, decide_false, reduceCtorEq, Nat.reduceLT, Nat.reduceEqDiff, ↓reduceIte, g8d14, h3, h5, h6, hv.fLen, hlt, e1, l0, l1, c0, c1, i_eql, d1, d2, g1]
      refine ⟨by trivial, by trivial, by trivial, ?_, ?_, ?_, ?_, ?_, ?_⟩
      · simp [tget_puts]
      · simp only [tget_puts, Nat.reduceLT, Nat.reduceEqDiff, ↓reduceIte, h0]
      · simp only [tget_puts, Nat.reduceLT, Nat.reduceEqDiff, ↓reduceIte, h3]
      · simp only [tget_puts, Nat.reduceLT, Nat.reduceEqDiff, ↓reduceIte, h4]
      · simp only [tget_puts, Nat.reduceLT, Nat.reduceEqDiff, ↓reduceIte, h5]
      · simp only [tget_puts, Nat.reduceLT, Nat.reduceEqDiff, ↓reduceIte, h6]
    | false =>
      simp (maxDischargeDepth := 9) only [auD, auC, auT, lget, BEq.rfl, beq_self_eq_true, decide_true, decide_false, reduceCtorEq, Nat.reduceLT, Nat.reduceEqDiff, ↓reduceIte, g8d14, h3, h5, h6, hv.fLen, hlt, e1, l0, l1, c0, c1, i_eql, d1, d2, g1, wantU]
      refine ⟨by trivial, by trivial, by trivial, ?_, ?_, ?_, ?_, ?_, ?_⟩
      · simp [tget_puts]
      · simp only [tget_puts, Nat.reduceLT, Nat.reduceEqDiff, ↓reduceIte, h0]
      · simp only [tget_puts, Nat.reduceLT, Nat.reduceEqDiff, ↓reduceIte, h3]
      · simp only [tget_puts, Nat.reduceLT, Nat.reduceEqDiff, ↓reduceIte, h4]
      · simp only [tget_puts, Nat.reduceLT, Nat.reduceEqDiff, ↓reduceIte, h5]
      · simp only [tget_puts, Nat.reduceLT, Nat.reduceEqDiff, ↓reduceIte, h6]
  · have hl : loR c m = m.length := Nat.le_antisymm (loR_le c m) hge
    rw [hitR_end hl]
    have hge' : ¬ loR c m < m.length := by omega
    simp (maxDischargeDepth := 9) only [auD, auC, auT, lget, BEq.rfl, beq_self_eq_true, decide_true, decide_false, reduceCtorEq, Nat.reduceLT, Nat.reduceEqDiff, ↓reduceIte, g8d14, h3, h5, h6, hv.fLen, hge', wantU]
    refine ⟨by trivial, by trivial, by trivial, ?_, ?_, ?_, ?_, ?_, ?_⟩
    · simp [tget_puts]
    · simp only [tget_puts, Nat.reduceLT, Nat.reduceEqDiff, ↓reduceIte, h0]
    · simp only [tget_puts, Nat.reduceLT, Nat.reduceEqDiff, ↓reduceIte, h3]
    · simp only [tget_puts, Nat.reduceLT, Nat.reduceEqDiff, ↓reduceIte, h4]
    · simp only [tget_puts, Nat.reduceLT, Nat.reduceEqDiff, ↓reduceIte, h5]
    · simp only [tget_puts, Nat.reduceLT, Nat.reduceEqDiff, ↓reduceIte, h6]
end
end Go.Am
end

section
namespace Go.Am
open Go Go.RowKit
theorem eq_minmax (a b : Int) : eqI (minI a b) (maxI a b) = eqI a b := by
  have hlt : ∀ a b, ltI a b = decide (a < b) := fun a b => by rw [ltI_eq]
  unfold minI maxI
  rw [eqI_dec, eqI_dec, hlt, hlt]
  by_cases h1 : b < a
  · have h2 : ¬ a < b := by omega
    simp only [h1, h2, decide_true, decide_false]
    congr 1
    exact propext ⟨fun e => e.symm, fun e => e.symm⟩
  · by_cases h2 : a < b
    · simp only [h1, h2, decide_true, decide_false]
    · have : a = b := by omega
      subst this
      simp [h1]
section
variable {E : Env}
abbrev g8body : ACode := .seq (.draw g8d4) (.seq (.seq (.region g8r5) (.cond (.t (Pos.ofNat 48)) (.exit 1) .skip)) (.seq (.region g8r6) (.seq (.region g8r7) (.seq (.block 2 (.loop g8l13)) (.seq (.seq (.draw g8d14) (.cond (.t (Pos.ofNat 90)) (.seq (.region g8r15) (.exit 1)) .skip)) (.seq (.region g8r16) (.seq (.region g8r17) (.seq (.region g8r18) (.seq (.region g8r19) (.region g8r20))))))))))
theorem ref_round (C : CodeOkC E) {N K i : Nat} {t : PT AVal} {H : AHeap} {x v : AVal} {ts m : List Trp} (h0 : tget t (Pos.ofNat 0) = x) (h3 : tget t (Pos.ofNat 3) = v) (h4 : tget t (Pos.ofNat 4) = .int .i64 (.ofNat i)) (hx : TReads N H x ts) (hi : i < ts.length) (hv : FullT K H v m) (hm : RisT m) (hl : m.length ≤ 1000000) (hK : K ≤ H.nx.toNat) {ro : Option Pos} :
    W E g8body ro ⟨t, []⟩ H (fun e a H' => (e = .normal ∨ e = .exit 1) ∧ a.ds = [] ∧ tget a.t (Pos.ofNat 0) = x ∧ tget a.t (Pos.ofNat 4) = .int .i64 (.ofNat i) ∧ FullT K H' (tget a.t (Pos.ofNat 3)) (match eqI ts[i].1 ts[i].2.1 with | true => m | false => insR (normT ts[i]) m) ∧ Keep K H H') := by
  obtain ⟨b, o, e1, e2, _⟩ := hx.fIdx hi
  obtain ⟨l0, l1, l2⟩ := cell_at e2
  obtain ⟨H1, s1, v1, hnx1⟩ := var3 (H := H) (normT ts[i])
  generalize ts[i] = y at e1 e2 l0 l1 l2 s1 v1 ⊢
  refine W.seq (W.draw ?_)
  simp (maxDischargeDepth := 9) only [auD, auC, auT, lget, BEq.rfl, beq_self_eq_true, decide_true, decide_false, reduceCtorEq, Nat.reduceLT, Nat.reduceEqDiff, ↓reduceIte, g8d4, h0, h4, e1, l0, l1, l2, mm_min, mm_max, mm_min', mm_max']
  refine wd_buildE (vs := cell3 (normT y)) (by simp [fillA, AOpnd.ev, tget_puts, vcellsO, lput, lover, normT]) ?_
  simp (maxDischargeDepth := 9) only [auD, auC, auT, lget, BEq.rfl, beq_self_eq_true, decide_true, decide_false, reduceCtorEq, Nat.reduceLT, Nat.reduceEqDiff, ↓reduceIte]
  refine wd_store (b := H.nx) (o := 0) (vs := cell3 (normT y)) (by simp only [auT, Nat.reduceLT, Nat.reduceEqDiff, ↓reduceIte]; try rfl) (by simp only [auT, Nat.reduceLT, Nat.reduceEqDiff, ↓reduceIte]; try rfl) rfl s1 (by repeat (first | exact again_nil' | refine again_skip rfl ?_)) ?_
  simp (maxDischargeDepth := 9) only [auD, auC, auT, lget, BEq.rfl, beq_self_eq_true, decide_true, decide_false, reduceCtorEq, Nat.reduceLT, Nat.reduceEqDiff, ↓reduceIte]
  simp only [andThen]
  have hk1 : Keep K H H1 := v1.keep.mono hK
  have hv1 : FullT K H1 v m := hv.keep v1.keep rfl
  have hlt1 : H.nx.toNat < H1.nx.toNat := v1.low
  refine W.seq (W.seq (W.region ?_))
  have heq : eqI (normT y).1 (normT y).2.1 = eqI y.1 y.2.1 := eq_minmax _ _
  rw [eqI_dec] at heq
  cases he : eqI y.1 y.2.1 with
  | true =>
    rw [he] at heq
    simp (maxDischargeDepth := 9) only [auW, auC, auT, lget, BEq.rfl, beq_self_eq_true, decide_true, decide_false, reduceCtorEq, Nat.reduceLT, Nat.reduceEqDiff, ↓reduceIte, g8r5, v1.l0, v1.l1, i_eql, heq]
    refine W.cond_true (by simp [AOpnd.ev, tget_puts, eqI_dec, heq]) (W.exit ?_)
    simp only [andThen]
    refine ⟨.inr (by trivial), by trivial, ?_, ?_, ?_, hk1⟩
    · simp only [tget_puts, Nat.reduceLT, Nat.reduceEqDiff, ↓reduceIte, h0]
    · simp only [tget_puts, Nat.reduceLT, Nat.reduceEqDiff, ↓reduceIte, h4]
    · simp only [tget_puts, Nat.reduceLT, Nat.reduceEqDiff, ↓reduceIte, h3]
      exact hv1
  | false =>
    rw [he] at heq
    simp (maxDischargeDepth := 9) only [auW, auC, auT, lget, BEq.rfl, beq_self_eq_true, decide_true, decide_false, reduceCtorEq, Nat.reduceLT, Nat.reduceEqDiff, ↓reduceIte, g8r5, v1.l0, v1.l1, i_eql, heq]
    refine W.cond_false (by simp [AOpnd.ev, tget_puts, eqI_dec, heq]) (W.skip ?_)
    simp only [andThen]
    refine W.seq (W.region ?_)
    simp (maxDischargeDepth := 9) only [auW, auC, auT, lget, BEq.rfl, beq_self_eq_true, decide_true, decide_false, reduceCtorEq, Nat.reduceLT, Nat.reduceEqDiff, ↓reduceIte, g8r6]
    simp only [andThen]
    refine W.seq (W.region ?_)
    simp (maxDischargeDepth := 9) only [auW, auC, auT, lget, BEq.rfl, beq_self_eq_true, decide_true, decide_false, reduceCtorEq, Nat.reduceLT, Nat.reduceEqDiff, ↓reduceIte, g8r7, h3, hv1.reads.fLen]
    simp only [andThen]
    have hcl : hloadN H1 H.nx 0 3 = some (cell3 (normT y)) := by
      rw [hloadN_at v1.at' (by simp)]
      rfl
    refine W.seq (W.block (W.mono (search_loop C (K := H1.nx.toNat) (H0 := H1) (bc := H.nx) (c := normT y) (i := i) (x := x) hv1.reads hm hl (Nat.le_refl _) hcl hlt1 m.length _ _ ⟨0, m.length, rfl, Nat.zero_le _, Nat.le_refl _, Nat.zero_le _, loR_le _ _, ?_, ?_, ?_, ?_, ?_, ?_, Keep.refl _ _⟩) ?_))
    · simp only [tget_puts, Nat.reduceLT, Nat.reduceEqDiff, ↓reduceIte, h3]
    · simp only [tget_puts, Nat.reduceLT, Nat.reduceEqDiff, ↓reduceIte]
    · simp only [tget_puts, Nat.reduceLT, Nat.reduceEqDiff, ↓reduceIte]
    · simp only [tget_puts, Nat.reduceLT, Nat.reduceEqDiff, ↓reduceIte]
    · simp only [tget_puts, Nat.reduceLT, Nat.reduceEqDiff, ↓reduceIte, h0]
    · simp only [tget_puts, Nat.reduceLT, Nat.reduceEqDiff, ↓reduceIte, h4]
    rintro e ⟨t2, ds⟩ H2 ⟨rfl, hd, q3, q5, q6, q0, q4, k2⟩
    have hd : ds = [] := hd
    subst hd
    simp only [inBlock, beq_t, andThen]
    have hv2 : FullT K H2 v m := hv1.keep k2 rfl
    have hcl2 := hloadN_keep k2 hlt1 hcl
    have hg2 : PT.get H.nx H2.t = some (.cells (cell3 (normT y)) false false) := by rw [k2.get _ hlt1]; exact v1.at'
    have a0 : hload H2 H.nx (0 + 0) = some (.int .i64 (normT y).1) := by rw [hload_at hg2 (by simp)]; rfl
    have a1 : hload H2 H.nx (0 + 1) = some (.int .i64 (normT y).2.1) := by rw [hload_at hg2 (by simp)]; rfl
    have hnx2 : H.nx.toNat < H2.nx.toNat := Nat.lt_of_lt_of_le hlt1 k2.nx
    have hkk : Keep K H H2 := hk1.trans (k2.mono (by omega))
    refine W.seq (W.seq (W.mono (hit_draw (i := i) (x := x) (K := H2.nx.toNat) q0 q3 q4 q5 q6 hv2.reads a0 a1) ?_))
    rintro e ⟨t3, ds⟩ H3 ⟨rfl, hd, rfl, p90, p0, p3, p4, p5, p6⟩
    have hd : ds = [] := hd
    subst hd
    simp only [andThen]
    cases hh : hitR (normT y) m with
    | true =>
      obtain ⟨z1, z2⟩ := insR_hit hh
      rw [z1]
      have p90 : tget t3 (Pos.ofNat 90) = .bool true := by rw [← hh]; exact p90
      refine W.cond_true p90 (W.mono (ins_hit (i := i) (x := x) p0 p3 p4 p5 p6 hv2 z2 hcl2) ?_)
      rintro e ⟨t4, ds⟩ H4 ⟨rfl, hd, r0, r4, r3, k4⟩
      exact ⟨.inr rfl, hd, r0, r4, r3, hkk.trans k4⟩
    | false =>
      rw [insR_miss hh]
      have p90 : tget t3 (Pos.ofNat 90) = .bool false := by rw [← hh]; exact p90
      refine W.cond_false p90 (W.skip ?_)
      simp only [andThen]
      refine W.mono (ins_new (i := i) (x := x) p0 p3 p4 p5 p6 hv2 (by omega) (loR_le _ _) hl hcl2 hnx2) ?_
      rintro e ⟨t4, ds⟩ H4 ⟨rfl, hd, r0, r4, r3, k4⟩
      exact ⟨.inl rfl, hd, r0, r4, r3, hkk.trans (k4.mono (by omega))⟩
theorem insR_length (c : Trp) : ∀ m : List Trp, (insR c m).length ≤ m.length + 1
  | [] => by simp [insR]
  | x :: l => by
    have := insR_length c l
    simp only [insR]
    cases ltT x c with
    | true => simp only [List.length_cons]; omega
    | false => cases (eqI x.1 c.1 && eqI x.2.1 c.2.1) <;> simp
theorem refT_take {ts : List Trp} : ∀ {i : Nat}, i ≤ ts.length → RisT (refT [] (ts.take i)) ∧ (refT [] (ts.take i)).length ≤ i
  | 0, _ => by simp [refT]
  | i + 1, h => by
    obtain ⟨h1, h2⟩ := refT_take (ts := ts) (i := i) (by omega)
    rw [List.take_succ_eq_append_getElem (by omega), refT_snoc]
    cases eqI ts[i].1 ts[i].2.1 with
    | true => exact ⟨h1, by simp only; omega⟩
    | false =>
      have := insR_length (normT ts[i]) (refT [] (ts.take i))
      exact ⟨insR_ris h1, by simp only; omega⟩
theorem ref_loop (C : CodeOkC E) {N K : Nat} {H0 : AHeap} {x : AVal} {ts : List Trp} (hx : TReads N H0 x ts) (hNK : N ≤ K) (hK : K ≤ H0.nx.toNat) (hl : ts.length ≤ 1000000) {ro : Option Pos} :
    ∀ (n : Nat) (t : PT AVal) (H : AHeap), (∃ i, i + n = ts.length ∧ tget t (Pos.ofNat 0) = x ∧ tget t (Pos.ofNat 4) = .int .i64 (.ofNat i) ∧ FullT K H (tget t (Pos.ofNat 3)) (refT [] (ts.take i)) ∧ Keep K H0 H) →
    W E (.loop g8l22) ro ⟨t, []⟩ H (fun e a H' => e = .exit 0 ∧ a.ds = [] ∧ FullT K H' (tget a.t (Pos.ofNat 3)) (refT [] ts) ∧ Keep K H0 H') := by
  refine W.loop_inv (Q := fun e a H' => e = .exit 0 ∧ a.ds = [] ∧ FullT K H' (tget a.t (Pos.ofNat 3)) (refT [] ts) ∧ Keep K H0 H') _ ?_
  rintro n t H ⟨i, hi, h0, h4, h3, hk⟩
  refine W.seq (W.seq (W.region ?_))
  simp (maxDischargeDepth := 9) only [auW, auC, auT, lget, BEq.rfl, beq_self_eq_true, decide_true, decide_false, reduceCtorEq, Nat.reduceLT, Nat.reduceEqDiff, ↓reduceIte, g8r3, h0, h4, (hx.keep hk hNK).fLen]
  refine W.cond_if (p := i < ts.length) (by simp [AOpnd.ev, tget_puts]) (fun hlt => W.skip ?_) (fun hge => W.exit ?_)
  rotate_left
  · rw [List.take_of_length_le (by omega)] at h3
    refine ⟨by trivial, by trivial, ?_, hk⟩
    simp only [tget_puts, Nat.reduceLT, Nat.reduceEqDiff, ↓reduceIte]
    exact h3
  simp only [andThen]
  obtain ⟨g1, g2⟩ := refT_take (ts := ts) (i := i) (by omega)
  have hsn : refT [] (ts.take (i + 1)) = (match eqI ts[i].1 ts[i].2.1 with | true => refT [] (ts.take i) | false => insR (normT ts[i]) (refT [] (ts.take i))) := by
    rw [List.take_succ_eq_append_getElem hlt, refT_snoc]
    try (cases eqI ts[i].1 ts[i].2.1 <;> rfl)
  refine W.seq (W.block (W.mono (ref_round C (K := K) (v := tget t (Pos.ofNat 3)) (i := i) (x := x) ?_ ?_ ?_ (hx.keep hk hNK) hlt h3 g1 (by omega) (Nat.le_trans hK hk.nx)) ?_))
  · simp only [tget_puts, Nat.reduceLT, Nat.reduceEqDiff, ↓reduceIte, h0]
  · simp only [tget_puts, Nat.reduceLT, Nat.reduceEqDiff, ↓reduceIte]
  · simp only [tget_puts, Nat.reduceLT, Nat.reduceEqDiff, ↓reduceIte, h4]
  rintro e ⟨t2, ds⟩ H2 ⟨he, hd, q0, q4, q3, k2⟩
  have hd : ds = [] := hd
  subst hd
  rw [← hsn] at q3
  have hgoal : W E (.region g8r21) ro ⟨t2, []⟩ H2 (loopPost [] (fun n t H => ∃ i, i + n = ts.length ∧ tget t (Pos.ofNat 0) = x ∧ tget t (Pos.ofNat 4) = .int .i64 (.ofNat i) ∧ FullT K H (tget t (Pos.ofNat 3)) (refT [] (ts.take i)) ∧ Keep K H0 H) (fun e a H' => e = .exit 0 ∧ a.ds = [] ∧ FullT K H' (tget a.t (Pos.ofNat 3)) (refT [] ts) ∧ Keep K H0 H') n) := by
    have q0 : tget t2 (Pos.ofNat 0) = x := q0
    have q4 : tget t2 (Pos.ofNat 4) = .int .i64 (.ofNat i) := q4
    refine W.region ?_
    simp (maxDischargeDepth := 9) only [auW, auC, auT, lget, BEq.rfl, beq_self_eq_true, decide_true, decide_false, reduceCtorEq, Nat.reduceLT, Nat.reduceEqDiff, ↓reduceIte, g8r21, q4, b_add (show i + 1 ≤ 9223372036854775807 by omega)]
    refine ⟨by trivial, n - 1, by omega, i + 1, by omega, ?_, ?_, ?_, hk.trans k2⟩
    · simp only [tget_puts, Nat.reduceLT, Nat.reduceEqDiff, ↓reduceIte, q0]
    · simp only [tget_puts, Nat.reduceLT, Nat.reduceEqDiff, ↓reduceIte]
    · simp only [tget_puts, Nat.reduceLT, Nat.reduceEqDiff, ↓reduceIte]
      exact q3
  rcases he with rfl | rfl <;> exact hgoal
/-- The reference's Net. -/
theorem ref_ok (C : CodeOkC E) {N : Nat} {H : AHeap} {x : AVal} {ts : List Trp} (hx : TReads N H x ts) (hN : N ≤ H.nx.toNat) (hl : ts.length ≤ 1000000) : ∃ v H', CallS E 8 [x] H v H' ∧ FullT H.nx.toNat H' v (netT ts) ∧ Keep H.nx.toNat H H' := by
  refine CallS.by (R := fun v H' => FullT H.nx.toNat H' v (netT ts) ∧ Keep H.nx.toNat H H') (t0 := tput .l (some (Pos.ofNat 0)) x) (C.s _ rfl) rfl C.f8 rfl ?_
  refine W.seq (W.region ?_)
  simp (maxDischargeDepth := 9) only [auW, auC, auT, lget, BEq.rfl, beq_self_eq_true, decide_true, decide_false, reduceCtorEq, Nat.reduceLT, Nat.reduceEqDiff, ↓reduceIte, g8r0]
  refine W.seq (W.region ?_)
  simp (maxDischargeDepth := 9) only [auW, auC, auT, lget, BEq.rfl, beq_self_eq_true, decide_true, decide_false, reduceCtorEq, Nat.reduceLT, Nat.reduceEqDiff, ↓reduceIte, g8r1]
  refine W.seq (W.seq (W.region ?_))
  simp (maxDischargeDepth := 9) only [auW, auC, auT, lget, BEq.rfl, beq_self_eq_true, decide_true, decide_false, reduceCtorEq, Nat.reduceLT, Nat.reduceEqDiff, ↓reduceIte, g8r2]
  refine W.block (W.mono (ref_loop C (K := H.nx.toNat) hx hN (Nat.le_refl _) hl ts.length _ _ ⟨0, by omega, ?_, ?_, ?_, Keep.refl _ _⟩) ?_)
  · simp only [tget_puts, Nat.reduceLT, Nat.reduceEqDiff, ↓reduceIte]
  · simp only [tget_puts, Nat.reduceLT, Nat.reduceEqDiff, ↓reduceIte]
  · simp only [tget_puts, Nat.reduceLT, Nat.reduceEqDiff, ↓reduceIte]
    exact .inl ⟨rfl, rfl⟩
  rintro e ⟨t', ds⟩ H' ⟨rfl, hd, q3, hk⟩
  have hd : ds = [] := hd
  subst hd
  simp only [andThen, inBlock, beq_t]
  refine W.seq (W.region ?_)
  simp (maxDischargeDepth := 9) only [auW, auC, auT, lget, BEq.rfl, beq_self_eq_true, decide_true, decide_false, reduceCtorEq, Nat.reduceLT, Nat.reduceEqDiff, ↓reduceIte, g8r23]
  rw [refT_netT] at q3
  refine W.ret ⟨.inr rfl, rfl, tget t' (Pos.ofNat 3), ?_, q3, hk⟩
  simp [resultA, g8, tget_puts]
end
end Go.Am
end

section
namespace Go.Am
open Go Go.RowKit
section
variable {E : Env}
theorem refT_length (ts : List Trp) : (netT ts).length ≤ ts.length := by
  have := (refT_take (ts := ts) (i := ts.length) (Nat.le_refl _)).2
  rw [List.take_length, refT_netT] at this
  exact this
theorem full_reads {H : AHeap} {b : Pos} {ts : List Trp} {op ro : Bool} (hb : PT.get b H.t = some (.cells (tripVals ts) op ro)) {K : Nat} (hK : b.toNat < K) : TReads K H (.sl b 0 ts.length ts.length 0) ts := by
  refine .inr ⟨b, 0, ts.length, 0, rfl, ?_, hK, .inl rfl, Nat.le_refl _⟩
  rw [hloadN_at hb (by rw [tripVals_length]; omega), List.drop_zero, List.take_of_length_le (by rw [tripVals_length]; omega)]
theorem lent_reads {H : AHeap} {b : Pos} {ts : List Trp} {op ro : Bool} (hb : PT.get b H.t = some (.cells (tripVals (ts ++ [mark])) op ro)) {K : Nat} (hK : b.toNat < K) : TReads K H (.sl b 0 ts.length (ts.length + 1) 3) ts := by
  refine .inr ⟨b, 0, ts.length + 1, 3, rfl, ?_, hK, .inr rfl, by omega⟩
  rw [hloadN_at hb (by rw [tripVals_length, List.length_append, List.length_singleton]; omega), List.drop_zero, tripVals_take]
  simp
theorem law_tail (C : CodeOkC E) (h7 : PT.get (Pos.ofNat 7) E.sums = some sNet) {t : PT AVal} {H : AHeap} {b : Pos} {ts : List Trp} (h8 : tget t (Pos.ofNat 8) = .sl b 0 ts.length (ts.length + 1) 3) (h9 : tget t (Pos.ofNat 9) = .bool true) (hb : PT.get b H.t = some (.cells (tripVals (ts ++ [mark])) true false)) (hbl : b.toNat < H.nx.toNat) (hl : ts.length ≤ 3000) {ro : Option Pos} :
    W E (.seq (.region g3r9) (.seq (.region g3r10) (.seq (.region g3r11) (.seq (.region g3r12) .ret)))) ro ⟨t, []⟩ H (fun e a H' => e = .ret ∧ a.ds = [] ∧ tget a.t (Pos.ofNat 6) = .bool true) := by
  have hm := lent_reads hb (K := H.nx.toNat) hbl
  refine W.seq (W.region ?_)
  obtain ⟨_, H1, hc1, ⟨b1, rfl, hb1, hb2, hb3⟩, k1⟩ := changes_ok C hm (Nat.le_refl _) (by omega)
  simp (maxDischargeDepth := 9) only [auW, auC, auT, lget, BEq.rfl, beq_self_eq_true, decide_true, decide_false, reduceCtorEq, Nat.reduceLT, Nat.reduceEqDiff, ↓reduceIte, g3r9, h8]
  refine wo_callE (hc1) (by simp only [auT, Nat.reduceLT, Nat.reduceEqDiff, ↓reduceIte]) ?_
  simp (maxDischargeDepth := 9) only [auW, auC, auT, lget, BEq.rfl, beq_self_eq_true, decide_true, decide_false, reduceCtorEq, Nat.reduceLT, Nat.reduceEqDiff, ↓reduceIte]
  simp only [andThen]
  obtain ⟨w1, H2, hc2, hw1, k2⟩ := net_call h7 (hm.keep k1 (Nat.le_refl _)) (by omega)
  have hy1 := full_reads hb1 hb3
  obtain ⟨w2, H3, hc3, hw2, k3⟩ := ref_ok C (hy1.keep k2 (Nat.le_refl _)) k2.nx (by omega)
  have hnl := refT_length ts
  have hsame := same_ok C ((hw1.reads.keep k3 (Nat.le_refl _)).mono k3.nx) hw2.reads (by omega)
  refine W.seq (W.region ?_)
  simp (maxDischargeDepth := 9) only [auW, auC, auT, lget, BEq.rfl, beq_self_eq_true, decide_true, decide_false, reduceCtorEq, Nat.reduceLT, Nat.reduceEqDiff, ↓reduceIte, g3r10, h8]
  refine wo_callE (hc2) (by simp only [auT, Nat.reduceLT, Nat.reduceEqDiff, ↓reduceIte]) ?_
  simp (maxDischargeDepth := 9) only [auW, auC, auT, lget, BEq.rfl, beq_self_eq_true, decide_true, decide_false, reduceCtorEq, Nat.reduceLT, Nat.reduceEqDiff, ↓reduceIte]
  refine wo_callE (hc3) (by simp only [auT, Nat.reduceLT, Nat.reduceEqDiff, ↓reduceIte]) ?_
  refine wo_callE (hsame) (by simp only [auT, Nat.reduceLT, Nat.reduceEqDiff, ↓reduceIte]) ?_
  simp (maxDischargeDepth := 9) only [auW, auC, auT, lget, BEq.rfl, beq_self_eq_true, decide_true, decide_false, reduceCtorEq, Nat.reduceLT, Nat.reduceEqDiff, ↓reduceIte]
  simp only [andThen]
  have kb : PT.get b H3.t = some (.cells (tripVals (ts ++ [mark])) true false) := by
    rw [k3.get b (by have := k1.nx; have := k2.nx; omega), k2.get b (by have := k1.nx; omega), k1.get b hbl]; exact hb
  have hy3 := ((hy1.keep k2 (Nat.le_refl _)).keep k3 k2.nx)
  have hbl3 : b.toNat < H3.nx.toNat := by have := k1.nx; have := k2.nx; have := k3.nx; omega
  obtain ⟨_, H4, hc4, rfl⟩ := stays_ok C kb (hy3.mono (by have := k2.nx; have := k3.nx; omega)) hbl3 (by omega)
  refine W.seq (W.region ?_)
  simp (maxDischargeDepth := 9) only [auW, auC, auT, lget, BEq.rfl, beq_self_eq_true, decide_true, decide_false, reduceCtorEq, Nat.reduceLT, Nat.reduceEqDiff, ↓reduceIte, g3r11, h8]
  refine wo_callE (hc4) (by simp only [auT, Nat.reduceLT, Nat.reduceEqDiff, ↓reduceIte]) ?_
  simp (maxDischargeDepth := 9) only [auW, auC, auT, lget, BEq.rfl, beq_self_eq_true, decide_true, decide_false, reduceCtorEq, Nat.reduceLT, Nat.reduceEqDiff, ↓reduceIte]
  simp only [andThen]
  refine W.seq (W.region ?_)
  simp (maxDischargeDepth := 9) only [auW, auC, auT, lget, BEq.rfl, beq_self_eq_true, decide_true, decide_false, reduceCtorEq, Nat.reduceLT, Nat.reduceEqDiff, ↓reduceIte, g3r12, h9]
  simp only [andThen]
  refine W.ret ⟨by trivial, by trivial, ?_⟩
  simp [tget_puts]
theorem setT_mark {ts : List Trp} {j : Nat} (hj : j < ts.length) (c : Trp) : (ts ++ [mark]).take j ++ c :: (ts ++ [mark]).drop (j + 1) = (ts.take j ++ c :: ts.drop (j + 1)) ++ [mark] := by
  rw [List.take_append_of_le_length (by omega), List.drop_append_of_le_length (by omega)]
  simp
/-- **The law**: Net of any changes; and again over the same memory, one turned. -/
theorem law_ok (C : CodeOkC E) (h7 : PT.get (Pos.ofNat 7) E.sums = some sNet) {N : Nat} {H : AHeap} {x : AVal} {ts : List Trp} (i : Int) (c : Trp) (hx : TReads N H x ts) (hN : N ≤ H.nx.toNat) (hfirst : ∀ H', Keep H.nx.toNat H H' → CallS E 4 [] H' (.bool true) H') : ∃ H', CallS E 3 [x, .int .i64 i, .agg (cell3 c)] H (.bool true) H' := by
  suffices h : ∃ v H', CallS E 3 [x, .int .i64 i, .agg (cell3 c)] H v H' ∧ v = .bool true by obtain ⟨v, H', h, rfl⟩ := h; exact ⟨H', h⟩
  refine CallS.by (R := fun v H' => v = .bool true) (t0 := tput (tput (tput .l (some (Pos.ofNat 0)) x) (some (Pos.ofNat 1)) (.int .i64 i)) (some (Pos.ofNat 2)) (.agg (cell3 c))) (C.s _ rfl) rfl C.f3 rfl ?_
  refine W.seq (W.region ?_)
  refine wo_box (vs := cell3 c) (by simp [AOpnd.ev, tget_puts, vcellsO]) ?_
  simp (maxDischargeDepth := 9) only [auW, auC, auT, lget, BEq.rfl, beq_self_eq_true, decide_true, decide_false, reduceCtorEq, Nat.reduceLT, Nat.reduceEqDiff, ↓reduceIte]
  generalize hH1 : (H.new (.cells (cell3 c) false false)).2 = H1
  have k1 : Keep H.nx.toNat H H1 := by rw [← hH1]; exact keep_new
  have n1 : H1.nx = H.nx.succ := by rw [← hH1]; rfl
  have hlt1 : H.nx.toNat < H1.nx.toNat := by rw [n1, Pos.toNat_succ]; omega
  have g1 : PT.get H.nx H1.t = some (.cells (cell3 c) false false) := by rw [← hH1]; exact get_new
  have hx1 := hx.keep k1 hN
  have hcl : hloadN H1 H.nx 0 3 = some (cell3 c) := by rw [hloadN_at g1 (by simp)]; rfl
  refine W.seq (W.region ?_)
  simp (maxDischargeDepth := 9) only [auW, auC, auT, lget, BEq.rfl, beq_self_eq_true, decide_true, decide_false, reduceCtorEq, Nat.reduceLT, Nat.reduceEqDiff, ↓reduceIte, g3r1]
  refine wo_callE (hfirst H1 k1) (by simp only [auT, Nat.reduceLT, Nat.reduceEqDiff, ↓reduceIte]) ?_
  simp (maxDischargeDepth := 9) only [auW, auC, auT, lget, BEq.rfl, beq_self_eq_true, decide_true, decide_false, reduceCtorEq, Nat.reduceLT, Nat.reduceEqDiff, ↓reduceIte]
  simp only [andThen]
  refine W.seq (W.seq (W.region ?_))
  simp (maxDischargeDepth := 9) only [auW, auC, auT, lget, BEq.rfl, beq_self_eq_true, decide_true, decide_false, reduceCtorEq, Nat.reduceLT, Nat.reduceEqDiff, ↓reduceIte, g3r2, hx1.fLen2, wantU]
  refine W.cond_if (p := 3000 < ts.length) (by simp [AOpnd.ev, tget_puts]) (fun hgt => W.seq (W.region ?_)) (fun hle => W.skip ?_)
  · simp (maxDischargeDepth := 9) only [auW, auC, auT, lget, BEq.rfl, beq_self_eq_true, decide_true, decide_false, reduceCtorEq, Nat.reduceLT, Nat.reduceEqDiff, ↓reduceIte, g3r3]
    simp only [andThen]
    refine W.ret ⟨.inr rfl, rfl, .bool true, ?_, rfl⟩
    simp [resultA, g3, tget_puts]
  have hl : ts.length ≤ 3000 := by omega
  simp only [andThen]
  have hN1 : N ≤ H1.nx.toNat := by omega
  obtain ⟨_, H2, hc2, ⟨b, rfl, hb, hb0, hb1⟩, k2⟩ := lent_ok C hx1 hN1 (by omega)
  refine W.seq (W.region ?_)
  simp (maxDischargeDepth := 9) only [auW, auC, auT, lget, BEq.rfl, beq_self_eq_true, decide_true, decide_false, reduceCtorEq, Nat.reduceLT, Nat.reduceEqDiff, ↓reduceIte, g3r4]
  refine wo_callE (hc2) (by simp only [auT, Nat.reduceLT, Nat.reduceEqDiff, ↓reduceIte]) ?_
  simp (maxDischargeDepth := 9) only [auW, auC, auT, lget, BEq.rfl, beq_self_eq_true, decide_true, decide_false, reduceCtorEq, Nat.reduceLT, Nat.reduceEqDiff, ↓reduceIte]
  simp only [andThen]
  have hm := lent_reads hb (K := H2.nx.toNat) hb1
  obtain ⟨w1, H3, hc3, hw1, k3⟩ := net_call h7 hm (by omega)
  have hx3 : TReads N H3 x ts := (hx1.keep k2 hN1).keep k3 (Nat.le_trans hN1 k2.nx)
  have hN3 : N ≤ H3.nx.toNat := by have := k2.nx; have := k3.nx; omega
  obtain ⟨w2, H4, hc4, hw2, k4⟩ := ref_ok C hx3 hN3 (by omega)
  have hnl := refT_length ts
  have hsame := same_ok C ((hw1.reads.keep k4 (Nat.le_refl _)).mono k4.nx) hw2.reads (by omega)
  refine W.seq (W.region ?_)
  simp (maxDischargeDepth := 9) only [auW, auC, auT, lget, BEq.rfl, beq_self_eq_true, decide_true, decide_false, reduceCtorEq, Nat.reduceLT, Nat.reduceEqDiff, ↓reduceIte, g3r5]
  refine wo_callE (hc3) (by simp only [auT, Nat.reduceLT, Nat.reduceEqDiff, ↓reduceIte]) ?_
  simp (maxDischargeDepth := 9) only [auW, auC, auT, lget, BEq.rfl, beq_self_eq_true, decide_true, decide_false, reduceCtorEq, Nat.reduceLT, Nat.reduceEqDiff, ↓reduceIte]
  refine wo_callE (hc4) (by simp only [auT, Nat.reduceLT, Nat.reduceEqDiff, ↓reduceIte]) ?_
  refine wo_callE (hsame) (by simp only [auT, Nat.reduceLT, Nat.reduceEqDiff, ↓reduceIte]) ?_
  simp (maxDischargeDepth := 9) only [auW, auC, auT, lget, BEq.rfl, beq_self_eq_true, decide_true, decide_false, reduceCtorEq, Nat.reduceLT, Nat.reduceEqDiff, ↓reduceIte]
  simp only [andThen]
  have hx4 := hx3.keep k4 hN3
  have kb : PT.get b H4.t = some (.cells (tripVals (ts ++ [mark])) true false) := by
    rw [k4.get b (by have := k3.nx; omega), k3.get b hb1]; exact hb
  have hcl4 : hloadN H4 H.nx 0 3 = some (cell3 c) := hloadN_keep k4 (by have := k2.nx; have := k3.nx; omega) (hloadN_keep k3 (by have := k2.nx; omega) (hloadN_keep k2 hlt1 hcl))
  have hbl4 : b.toNat < H4.nx.toNat := by have := k3.nx; have := k4.nx; omega
  refine W.seq (W.seq (W.region ?_))
  simp (maxDischargeDepth := 9) only [auW, auC, auT, lget, BEq.rfl, beq_self_eq_true, decide_true, decide_false, reduceCtorEq, Nat.reduceLT, Nat.reduceEqDiff, ↓reduceIte, g3r6, hx4.fLen2]
  simp only [andThen]
  refine W.seq (W.region ?_)
  simp (maxDischargeDepth := 9) only [auW, auC, auT, lget, BEq.rfl, beq_self_eq_true, decide_true, decide_false, reduceCtorEq, Nat.reduceLT, Nat.reduceEqDiff, ↓reduceIte, g3r7]
  simp only [andThen]
  refine W.cond_if (p := 0 < ts.length) (by simp [AOpnd.ev, tget_puts]) (fun hpos => W.draw ?_) (fun hz => W.skip ?_)
  · obtain ⟨r, s, j, e1, e2, e3, hj⟩ := rem_idx i hpos (by omega)
    have hidx : fIdxS 3 (.sl b 0 ts.length (ts.length + 1) 3) (.int .i64 (.ofNat j)) = some (.ptr b (0 + j * 3)) := by
      simp only [fIdxS, natOf, blt_t hj]
      rfl
    simp (maxDischargeDepth := 9) only [auD, auC, auT, lget, BEq.rfl, beq_self_eq_true, decide_true, decide_false, reduceCtorEq, Nat.reduceLT, Nat.reduceEqDiff, ↓reduceIte, g3d8, e1, e2, e3, fLoadN, hcl4, hidx]
    refine wd_store (b := b) (o := 0 + j * 3) (vs := cell3 c) (by simp only [auT, Nat.reduceLT, Nat.reduceEqDiff, ↓reduceIte]; try rfl) (by simp only [auT, Nat.reduceLT, Nat.reduceEqDiff, ↓reduceIte]; try rfl) rfl (store_trip kb (i := j) (by rw [List.length_append, List.length_singleton]; omega) c) (by repeat (first | exact again_nil' | refine again_skip rfl ?_)) ?_
    simp (maxDischargeDepth := 9) only [auD, auC, auT, lget, BEq.rfl, beq_self_eq_true, decide_true, decide_false, reduceCtorEq, Nat.reduceLT, Nat.reduceEqDiff, ↓reduceIte]
    simp only [andThen]
    have hlen : (ts.take j ++ c :: ts.drop (j + 1)).length = ts.length := by simp; omega
    refine W.mono (law_tail C h7 (ts := ts.take j ++ c :: ts.drop (j + 1)) (b := b) ?_ ?_ ?_ ?_ (by omega)) ?_
    · rw [hlen]
      simp only [tget_puts, Nat.reduceLT, Nat.reduceEqDiff, ↓reduceIte]
    · simp only [tget_puts, Nat.reduceLT, Nat.reduceEqDiff, ↓reduceIte]
    · rw [setT_mark hj]
      exact get_upd
    · exact hbl4
    rintro e a H' ⟨rfl, hd, h6⟩
    refine ⟨.inr rfl, hd, .bool true, ?_, rfl⟩
    simp [resultA, g3, h6]
  · refine W.mono (law_tail C h7 (ts := ts) (b := b) ?_ ?_ kb hbl4 hl) ?_
    · simp only [tget_puts, Nat.reduceLT, Nat.reduceEqDiff, ↓reduceIte]
    · simp only [tget_puts, Nat.reduceLT, Nat.reduceEqDiff, ↓reduceIte]
    rintro e a H' ⟨rfl, hd, h6⟩
    refine ⟨.inr rfl, hd, .bool true, ?_, rfl⟩
    simp [resultA, g3, h6]
end
end Go.Am
end
