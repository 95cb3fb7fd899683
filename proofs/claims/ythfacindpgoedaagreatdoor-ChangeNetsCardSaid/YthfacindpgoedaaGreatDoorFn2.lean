/- Part of the proof: AmC4, AmC5, AmC6, AmC7. -/
import Derived.Test.YthfacindpgoedaaGreatDoorFn1
set_option linter.unusedSimpArgs false
set_option linter.unusedVariables false
section
namespace Go.Am
open Go Go.RowKit

/-! The reference's Net, plainly: each change is laid into the rising list. -/
def insR (c : Trp) : List Trp → List Trp
  | [] => [c]
  | x :: l => match ltT x c with
    | true => x :: insR c l
    | false => match eqI x.1 c.1 && eqI x.2.1 c.2.1 with
      | true => c :: l
      | false => c :: x :: l
def refT (m : List Trp) : List Trp → List Trp
  | [] => m
  | t :: l => match eqI t.1 t.2.1 with
    | true => refT m l
    | false => refT (insR (normT t) m) l
theorem refT_snoc : ∀ (l : List Trp) (m : List Trp) (t : Trp), refT m (l ++ [t]) = (match eqI t.1 t.2.1 with | true => refT m l | false => insR (normT t) (refT m l))
  | [], m, t => by simp only [List.nil_append, refT]
  | x :: l, m, t => by
    simp only [List.cons_append, refT]
    cases eqI x.1 x.2.1 with
    | true => simp only; exact refT_snoc l m t
    | false => simp only; exact refT_snoc l _ t
abbrev RisT (l : List Trp) : Prop := l.Pairwise (fun a b => LtK (keyT a) (keyT b))
theorem insR_mem {c : Trp} : ∀ {m : List Trp} {x : Trp}, RisT m → (x ∈ insR c m ↔ x = c ∨ (x ∈ m ∧ keyT x ≠ keyT c))
  | [], x, _ => by simp [insR]
  | y :: m, x, h => by
    obtain ⟨h1, h2⟩ := List.pairwise_cons.1 h
    simp only [insR]
    cases hlt : ltT y c with
    | true =>
      have hlt := (ltT_iff y c).1 hlt
      have hne : keyT y ≠ keyT c := fun e => by rw [e] at hlt; exact LtK.irrefl _ hlt
      simp only [List.mem_cons, insR_mem h2]
      constructor
      · rintro (rfl | rfl | ⟨h3, h4⟩)
        · exact .inr ⟨.inl rfl, hne⟩
        · exact .inl rfl
        · exact .inr ⟨.inr h3, h4⟩
      · rintro (rfl | ⟨rfl | h3, h4⟩)
        · exact .inr (.inl rfl)
        · exact .inl rfl
        · exact .inr (.inr ⟨h3, h4⟩)
    | false =>
      have hnl : ¬ LtK (keyT y) (keyT c) := fun hh => by rw [(ltT_iff y c).2 hh] at hlt; cases hlt
      simp only
      cases he : (eqI y.1 c.1 && eqI y.2.1 c.2.1) with
      | true =>
        have hk := (eqT_iff y c).1 he
        simp only [List.mem_cons]
        constructor
        · rintro (rfl | h3)
          · exact .inl rfl
          · have := h1 x h3
            rw [hk] at this
            exact .inr ⟨.inr h3, fun e => by rw [e] at this; exact LtK.irrefl _ this⟩
        · rintro (rfl | ⟨rfl | h3, h4⟩)
          · exact .inl rfl
          · exact absurd hk h4
          · exact .inr h3
      | false =>
        have hk : keyT y ≠ keyT c := fun e => by rw [(eqT_iff y c).2 e] at he; cases he
        have hcy : LtK (keyT c) (keyT y) := by
          rcases LtK.total (keyT c) (keyT y) with h | h | h
          · exact h
          · exact absurd h.symm hk
          · exact absurd h hnl
        simp only [List.mem_cons]
        constructor
        · rintro (rfl | rfl | h3)
          · exact .inl rfl
          · exact .inr ⟨.inl rfl, hk⟩
          · have := hcy.trans (h1 x h3)
            exact .inr ⟨.inr h3, fun e => by rw [e] at this; exact LtK.irrefl _ this⟩
        · rintro (rfl | ⟨rfl | h3, h4⟩)
          · exact .inl rfl
          · exact .inr (.inl rfl)
          · exact .inr (.inr h3)
theorem insR_ris {c : Trp} : ∀ {m : List Trp}, RisT m → RisT (insR c m)
  | [], _ => by simp [insR]
  | y :: m, h => by
    obtain ⟨h1, h2⟩ := List.pairwise_cons.1 h
    have hmem := @insR_mem c m
    simp only [insR]
    cases hlt : ltT y c with
    | true =>
      have hlt := (ltT_iff y c).1 hlt
      refine List.pairwise_cons.2 ⟨fun x hx => ?_, insR_ris h2⟩
      rcases (hmem h2).1 hx with rfl | ⟨hx, _⟩
      · exact hlt
      · exact h1 x hx
    | false =>
      have hnl : ¬ LtK (keyT y) (keyT c) := fun hh => by rw [(ltT_iff y c).2 hh] at hlt; cases hlt
      simp only
      cases he : (eqI y.1 c.1 && eqI y.2.1 c.2.1) with
      | true =>
        have hk := (eqT_iff y c).1 he
        refine List.pairwise_cons.2 ⟨fun x hx => ?_, h2⟩
        rw [← hk]
        exact h1 x hx
      | false =>
        have hk : keyT y ≠ keyT c := fun e => by rw [(eqT_iff y c).2 e] at he; cases he
        have hcy : LtK (keyT c) (keyT y) := by
          rcases LtK.total (keyT c) (keyT y) with h | h | h
          · exact h
          · exact absurd h.symm hk
          · exact absurd h hnl
        refine List.pairwise_cons.2 ⟨fun x hx => ?_, h⟩
        rcases List.mem_cons.1 hx with rfl | hx
        · exact hcy
        · exact hcy.trans (h1 x hx)
theorem putT_mem {c : Trp} : ∀ {m : List Trp} {x : Trp}, (m.map keyT).Nodup → (x ∈ putT c m ↔ x = c ∨ (x ∈ m ∧ keyT x ≠ keyT c))
  | [], x, _ => by simp [putT]
  | y :: m, x, h => by
    simp only [List.map_cons, List.nodup_cons] at h
    simp only [putT]
    cases he : (eqI c.1 y.1 && eqI c.2.1 y.2.1) with
    | true =>
      have hk := (eqT_iff c y).1 he
      simp only [List.mem_cons]
      constructor
      · rintro (rfl | h3)
        · exact .inl rfl
        · exact .inr ⟨.inr h3, fun e => h.1 (by rw [← hk, ← e]; exact List.mem_map.2 ⟨x, h3, rfl⟩)⟩
      · rintro (rfl | ⟨rfl | h3, h4⟩)
        · exact .inl rfl
        · exact absurd hk.symm h4
        · exact .inr h3
    | false =>
      have hk : keyT y ≠ keyT c := fun e => by rw [(eqT_iff c y).2 e.symm] at he; cases he
      simp only [List.mem_cons, putT_mem h.2]
      constructor
      · rintro (rfl | rfl | ⟨h3, h4⟩)
        · exact .inr ⟨.inl rfl, hk⟩
        · exact .inl rfl
        · exact .inr ⟨.inr h3, h4⟩
      · rintro (rfl | ⟨rfl | h3, h4⟩)
        · exact .inr (.inl rfl)
        · exact .inl rfl
        · exact .inr (.inr ⟨h3, h4⟩)
/-- The two ways lead to one list. -/
theorem refT_same : ∀ (l : List Trp) (a b : List Trp), RisT a → (b.map keyT).Nodup → (∀ x, x ∈ a ↔ x ∈ b) → RisT (refT a l) ∧ (∀ x, x ∈ refT a l ↔ x ∈ lastT b l)
  | [], a, b, h1, h2, h3 => ⟨h1, h3⟩
  | t :: l, a, b, h1, h2, h3 => by
    simp only [refT, lastT]
    cases eqI t.1 t.2.1 with
    | true => exact refT_same l a b h1 h2 h3
    | false =>
      refine refT_same l _ _ (insR_ris h1) (putT_nodup h2) fun x => ?_
      rw [insR_mem h1, putT_mem h2, h3]
theorem refT_netT (ts : List Trp) : refT [] ts = netT ts := by
  obtain ⟨h1, h2⟩ := refT_same ts [] [] List.Pairwise.nil (by simp) (by simp)
  have hn : ((lastT [] ts).map keyT).Nodup := lastT_nodup (by simp)
  have nd : ∀ {l : List Trp}, (l.map keyT).Nodup → l.Nodup := fun h => (List.pairwise_map.1 h).imp fun hne e => hne (by rw [e])
  have hp : (refT [] ts).Perm (lastT [] ts) := (List.perm_ext_iff_of_nodup (nd (nodup_of_rising h1)) (nd hn)).2 h2
  exact List.Perm.eq_of_pairwise (le := fun a b => LtK (keyT a) (keyT b)) (fun x y _ _ g1 g2 => absurd (g1.trans g2) (LtK.irrefl _)) h1 (sortT_sorted hn) (hp.trans (sortT_perm _).symm)
end Go.Am
end

section
namespace Go.Am
open Go Go.RowKit

theorem i_lss (a b : Int) : binOpA .lss (.int .i64 a) (.int .i64 b) = some (.bool (ltI a b)) := rfl
theorem i_eql (a b : Int) : binOpA .eql (.int .i64 a) (.int .i64 b) = some (.bool (eqI a b)) := rfl
section
variable {E : Env}
theorem before_ok (C : CodeOkC E) {H : AHeap} (a b : Trp) : ∃ v H', CallS E 27 [.agg (cell3 a), .agg (cell3 b)] H v H' ∧ v = .bool (ltT a b) ∧ Keep H.nx.toNat H H' ∧ H'.nx = H.nx.succ.succ := by
  refine CallS.by (R := fun v H' => v = .bool (ltT a b) ∧ Keep H.nx.toNat H H' ∧ H'.nx = H.nx.succ.succ) (t0 := tput (tput .l (some (Pos.ofNat 0)) (.agg (cell3 a))) (some (Pos.ofNat 1)) (.agg (cell3 b))) (C.s _ rfl) rfl C.f27 rfl ?_
  refine W.seq (W.region ?_)
  refine wo_box (vs := cell3 a) (by simp [AOpnd.ev, tget_puts, vcellsO]) ?_
  refine wo_box (vs := cell3 b) (by simp [AOpnd.ev, tget_puts, vcellsO]) ?_
  simp (maxDischargeDepth := 9) only [auW, auC, auT, lget, BEq.rfl, beq_self_eq_true, decide_true, decide_false, reduceCtorEq, Nat.reduceLT, Nat.reduceEqDiff, ↓reduceIte]
  generalize hH1 : (H.new (.cells (cell3 a) false false)).2 = H1
  have n1 : H1.nx = H.nx.succ := by rw [← hH1]; rfl
  generalize hH2 : (H1.new (.cells (cell3 b) false false)).2 = H2
  have n2 : H2.nx = H.nx.succ.succ := by rw [← hH2, ← n1]; rfl
  have k1 : Keep H.nx.toNat H H1 := by rw [← hH1]; exact keep_new
  have k2 : Keep H1.nx.toNat H1 H2 := by rw [← hH2]; exact keep_new
  have hlt : H.nx.toNat < H1.nx.toNat := by rw [n1, Pos.toNat_succ]; omega
  have ga : PT.get H.nx H2.t = some (.cells (cell3 a) false false) := by
    rw [k2.get _ hlt, ← hH1]; exact get_new
  have gb : PT.get H1.nx H2.t = some (.cells (cell3 b) false false) := by
    rw [← hH2]; exact get_new
  have hk : Keep H.nx.toNat H H2 := k1.trans (k2.mono (by omega))
  have a0 : hload H2 H.nx (0 + 0) = some (.int .i64 a.1) := by rw [hload_at ga (by simp)]; rfl
  have a1 : hload H2 H.nx (0 + 1) = some (.int .i64 a.2.1) := by rw [hload_at ga (by simp)]; rfl
  have b0 : hload H2 H1.nx (0 + 0) = some (.int .i64 b.1) := by rw [hload_at gb (by simp)]; rfl
  have b1 : hload H2 H1.nx (0 + 1) = some (.int .i64 b.2.1) := by rw [hload_at gb (by simp)]; rfl
  refine W.seq (W.region ?_)
  unfold ltT
  have wu : ∀ c, wantV AVal.undef c = some false := fun _ => rfl
  have d2 : eqI a.1 b.1 = decide (a.1 = b.1) := eqI_dec _ _
  rw [d2]
  cases h1 : ltI a.1 b.1 with
  | true =>
    simp (maxDischargeDepth := 9) only [auW, auC, auT, lget, BEq.rfl, beq_self_eq_true, decide_true, decide_false, reduceCtorEq, Nat.reduceLT, Nat.reduceEqDiff, ↓reduceIte, g27r1, a0, a1, b0, b1, i_lss, i_eql, h1, wu]
    refine W.ret ⟨.inr rfl, rfl, .bool true, ?_, by trivial, hk, n2⟩
    simp [resultA, g27, tget_puts]
  | false =>
    cases h2 : decide (a.1 = b.1) with
    | true =>
      simp (maxDischargeDepth := 9) only [auW, auC, auT, lget, BEq.rfl, beq_self_eq_true, decide_true, decide_false, reduceCtorEq, Nat.reduceLT, Nat.reduceEqDiff, ↓reduceIte, g27r1, a0, a1, b0, b1, i_lss, i_eql, h1, h2]
      refine W.ret ⟨.inr rfl, rfl, .bool (ltI a.2.1 b.2.1), ?_, by trivial, hk, n2⟩
      simp [resultA, g27, tget_puts]
    | false =>
      simp (maxDischargeDepth := 9) only [auW, auC, auT, lget, BEq.rfl, beq_self_eq_true, decide_true, decide_false, reduceCtorEq, Nat.reduceLT, Nat.reduceEqDiff, ↓reduceIte, g27r1, a0, a1, b0, b1, i_lss, i_eql, h1, h2]
      refine W.ret ⟨.inr rfl, rfl, .bool false, ?_, by trivial, hk, n2⟩
      simp [resultA, g27, tget_puts]
end
end Go.Am
end

section
namespace Go.Am
open Go Go.RowKit
section
variable {E : Env}
theorem stays_loop {n cap : Nat} {b : Pos} (hn : n ≤ 1000000) {ro : Option Pos} :
    ∀ (k : Nat) (t : PT AVal) (H : AHeap), (∃ i l, i + k = n ∧ tget t (Pos.ofNat 0) = .sl b 0 n cap 3 ∧ tget t (Pos.ofNat 6) = .int .i64 (.ofNat i) ∧ tget t (Pos.ofNat 5) = .bool true ∧ PT.get b H.t = some (.cells l true false) ∧ n * 3 ≤ l.length) →
    W E (.loop g10l6) ro ⟨t, []⟩ H (fun e a H' => e = .exit 0 ∧ a.ds = [] ∧ tget a.t (Pos.ofNat 5) = .bool true) := by
  refine W.loop_inv (Q := fun e a H' => e = .exit 0 ∧ a.ds = [] ∧ tget a.t (Pos.ofNat 5) = .bool true) _ ?_
  rintro k t H ⟨i, l, hi, h0, h6, h5, hb, hl⟩
  refine W.seq (W.seq (W.region ?_))
  have hlen : fLen H 1 (.sl b 0 n cap 3) = some (.int .i64 (.ofNat n)) := rfl
  simp (maxDischargeDepth := 9) only [auW, auC, auT, lget, BEq.rfl, beq_self_eq_true, decide_true, decide_false, reduceCtorEq, Nat.reduceLT, Nat.reduceEqDiff, ↓reduceIte, g10r3, h0, h6, hlen]
  refine W.cond_if (p := i < n) (by simp [AOpnd.ev, tget_puts]) (fun hlt => W.skip ?_) (fun hge => W.exit ?_)
  rotate_left
  · refine ⟨by trivial, by trivial, ?_⟩
    simp only [tget_puts, Nat.reduceLT, Nat.reduceEqDiff, ↓reduceIte, h5]
  simp only [andThen]
  refine W.seq (W.block (W.region ?_))
  have hidx : fIdxS 3 (.sl b 0 n cap 3) (.int .i64 (.ofNat i)) = some (.ptr b (0 + i * 3)) := by
    simp only [fIdxS, natOf, blt_t hlt]
    rfl
  simp (maxDischargeDepth := 9) only [auW, auC, auT, lget, BEq.rfl, beq_self_eq_true, decide_true, decide_false, reduceCtorEq, Nat.reduceLT, Nat.reduceEqDiff, ↓reduceIte, g10r4, h0, h6]
  refine wo_buildE (vs := [.int .i64 (.negSucc 0), .int .i64 (.negSucc 1), .bool false]) (by simp [fillA, AOpnd.ev, vcellsO, lput, lover]) ?_
  simp (maxDischargeDepth := 9) only [auW, auC, auT, lget, BEq.rfl, beq_self_eq_true, decide_true, decide_false, reduceCtorEq, Nat.reduceLT, Nat.reduceEqDiff, ↓reduceIte, hidx]
  have hst : hstoreN H b (0 + i * 3) [.int .i64 (.negSucc 0), .int .i64 (.negSucc 1), .bool false] = some (H.upd b (.cells (l.take (0 + i * 3) ++ [.int .i64 (.negSucc 0), .int .i64 (.negSucc 1), .bool false] ++ l.drop (0 + i * 3 + 3)) true false)) := by
    unfold hstoreN
    rw [hb]
    have hs : allScal [AVal.int .i64 (.negSucc 0), .int .i64 (.negSucc 1), .bool false] = true := rfl
    simp only [hs]
    rw [lput_of _ _ _ (by simp only [List.length_cons, List.length_nil]; omega)]
    rfl
  refine wo_store (b := b) (o := 0 + i * 3) (vs := [.int .i64 (.negSucc 0), .int .i64 (.negSucc 1), .bool false]) (by simp only [auT, Nat.reduceLT, Nat.reduceEqDiff, ↓reduceIte]) (by simp only [auT, Nat.reduceLT, Nat.reduceEqDiff, ↓reduceIte]; rfl) rfl hst ?_
  simp (maxDischargeDepth := 9) only [auW, auC, auT, lget, BEq.rfl, beq_self_eq_true, decide_true, decide_false, reduceCtorEq, Nat.reduceLT, Nat.reduceEqDiff, ↓reduceIte]
  simp only [andThen, inBlock]
  refine W.region ?_
  simp (maxDischargeDepth := 9) only [auW, auC, auT, lget, BEq.rfl, beq_self_eq_true, decide_true, decide_false, reduceCtorEq, Nat.reduceLT, Nat.reduceEqDiff, ↓reduceIte, g10r5, h6, b_add (show i + 1 ≤ 9223372036854775807 by omega)]
  refine ⟨by trivial, k - 1, by omega, i + 1, _, by omega, ?_, ?_, ?_, get_upd, ?_⟩
  · simp only [tget_puts, Nat.reduceLT, Nat.reduceEqDiff, ↓reduceIte, h0]
  · simp only [tget_puts, Nat.reduceLT, Nat.reduceEqDiff, ↓reduceIte]
  · simp only [tget_puts, Nat.reduceLT, Nat.reduceEqDiff, ↓reduceIte, h5]
  · simp only [List.length_append, List.length_take, List.length_drop, List.length_cons, List.length_nil]; omega

theorem stays_ok (C : CodeOkC E) {N : Nat} {H : AHeap} {y : AVal} {b : Pos} {ts : List Trp} (hb : PT.get b H.t = some (.cells (tripVals (ts ++ [mark])) true false)) (hy : TReads N H y ts) (hbN : b.toNat < N) (hl : ts.length ≤ 1000000) :
    ∃ v H', CallS E 10 [.sl b 0 ts.length (ts.length + 1) 3, y] H v H' ∧ v = .bool true := by
  have hm : TReads N H (.sl b 0 ts.length (ts.length + 1) 3) ts := by
    refine .inr ⟨b, 0, ts.length + 1, 3, rfl, ?_, hbN, .inr rfl, by omega⟩
    rw [hloadN_at hb (by rw [tripVals_length, List.length_append, List.length_singleton]; omega), List.drop_zero, tripVals_take]
    simp
  refine CallS.by (R := fun v H' => v = .bool true) (t0 := tput (tput .l (some (Pos.ofNat 0)) (.sl b 0 ts.length (ts.length + 1) 3)) (some (Pos.ofNat 1)) y) (C.s _ rfl) rfl C.f10 rfl ?_
  refine W.seq (W.region ?_)
  simp (maxDischargeDepth := 9) only [auW, auC, auT, lget, BEq.rfl, beq_self_eq_true, decide_true, decide_false, reduceCtorEq, Nat.reduceLT, Nat.reduceEqDiff, ↓reduceIte, g10r0]
  refine W.seq (W.region ?_)
  have hsl : ∀ t : PT AVal, tget t (Pos.ofNat 14) = .int .i64 (.ofNat (ts.length + 1)) → sliceA t (.sl 3) (.sl b 0 ts.length (ts.length + 1) 3) none (some (.t (Pos.ofNat 14))) none = some (.sl b 0 (ts.length + 1) (ts.length + 1) 3) := fun t h => slice_pre3 h (by omega)
  have hidx : fIdxS 3 (.sl b 0 (ts.length + 1) (ts.length + 1) 3) (.int .i64 (.ofNat ts.length)) = some (.ptr b (0 + ts.length * 3)) := by
    simp only [fIdxS, natOf, blt_t (Nat.lt_succ_self ts.length)]
    rfl
  have hld : hload H b (0 + ts.length * 3 + 0) = some (.int .i64 201) := by
    rw [hload_at hb (by rw [tripVals_length, List.length_append, List.length_singleton]; omega)]
    congr 1
    have : (tripVals (ts ++ [mark]))[ts.length * 3]? = some (.int .i64 201) := by
      rw [tripVals_append, List.getElem?_append_right (by rw [tripVals_length]; omega), tripVals_length]
      simp [tripVals]
    obtain ⟨h1, h2⟩ := List.getElem?_eq_some_iff.1 this
    simpa using h2
  simp (maxDischargeDepth := 9) only [auW, auC, auT, lget, BEq.rfl, beq_self_eq_true, decide_true, decide_false, reduceCtorEq, Nat.reduceLT, Nat.reduceEqDiff, ↓reduceIte, g10r1]
  refine wo_callE (same_ok C hm hy (by omega)) (by simp only [auT, Nat.reduceLT, Nat.reduceEqDiff, ↓reduceIte]) ?_
  simp (maxDischargeDepth := 9) only [auW, auC, auT, lget, BEq.rfl, beq_self_eq_true, decide_true, decide_false, reduceCtorEq, Nat.reduceLT, Nat.reduceEqDiff, ↓reduceIte, hy.fLen2, b_add (show ts.length + 1 ≤ 9223372036854775807 by omega), hsl, hidx, hld, eq_self]
  simp only [andThen]
  refine W.seq (W.seq (W.region ?_))
  simp (maxDischargeDepth := 9) only [auW, auC, auT, lget, BEq.rfl, beq_self_eq_true, decide_true, decide_false, reduceCtorEq, Nat.reduceLT, Nat.reduceEqDiff, ↓reduceIte, g10r2]
  refine W.block (W.mono (stays_loop (n := ts.length) (cap := ts.length + 1) (b := b) hl ts.length _ _ ⟨0, tripVals (ts ++ [mark]), by omega, ?_, ?_, ?_, hb, ?_⟩) ?_)
  · simp only [tget_puts, Nat.reduceLT, Nat.reduceEqDiff, ↓reduceIte]
  · simp only [tget_puts, Nat.reduceLT, Nat.reduceEqDiff, ↓reduceIte]
  · simp only [tget_puts, Nat.reduceLT, Nat.reduceEqDiff, ↓reduceIte]
    simp
  · rw [tripVals_length, List.length_append, List.length_singleton]; omega
  rintro e ⟨t', ds⟩ H' ⟨rfl, hd, h5⟩
  have hd : ds = [] := hd
  subst hd
  have h5 : tget t' (Pos.ofNat 5) = .bool true := h5
  simp only [andThen, inBlock, beq_t]
  refine W.seq (W.region ?_)
  simp (maxDischargeDepth := 9) only [auW, auC, auT, lget, BEq.rfl, beq_self_eq_true, decide_true, decide_false, reduceCtorEq, Nat.reduceLT, Nat.reduceEqDiff, ↓reduceIte, g10r7, h5]
  refine W.ret ⟨.inr rfl, rfl, .bool true, ?_, rfl⟩
  simp [resultA, g10, tget_puts]
end
end Go.Am
end

section
namespace Go.Am
open Go Go.RowKit

/-! Where insR lays. -/
def loR (c : Trp) : List Trp → Nat
  | [] => 0
  | x :: l => match ltT x c with
    | true => loR c l + 1
    | false => 0
def hitR (c : Trp) : List Trp → Bool
  | [] => false
  | x :: l => match ltT x c with
    | true => hitR c l
    | false => eqI x.1 c.1 && eqI x.2.1 c.2.1
theorem loR_le (c : Trp) : ∀ m : List Trp, loR c m ≤ m.length
  | [] => Nat.le_refl _
  | x :: l => by
    have := loR_le c l
    simp only [loR]
    cases ltT x c <;> simp <;> omega
theorem insR_hit {c : Trp} : ∀ {m : List Trp}, hitR c m = true → insR c m = m.take (loR c m) ++ c :: m.drop (loR c m + 1) ∧ loR c m < m.length
  | [], h => by cases h
  | x :: l, h => by
    simp only [hitR] at h
    simp only [insR, loR]
    cases hl : ltT x c with
    | true =>
      rw [hl] at h
      obtain ⟨h1, h2⟩ := insR_hit (m := l) h
      simp only [h1]
      exact ⟨by simp, by simp; exact h2⟩
    | false =>
      rw [hl] at h
      simp only at h
      simp only [h]
      exact ⟨by simp, by simp⟩
theorem insR_miss {c : Trp} : ∀ {m : List Trp}, hitR c m = false → insR c m = m.take (loR c m) ++ c :: m.drop (loR c m)
  | [], h => rfl
  | x :: l, h => by
    simp only [hitR] at h
    simp only [insR, loR]
    cases hl : ltT x c with
    | true =>
      rw [hl] at h
      simp only [insR_miss (m := l) h]
      simp
    | false =>
      rw [hl] at h
      simp only at h
      simp only [h]
      simp
theorem loR_lt {c : Trp} : ∀ {m : List Trp} {i : Nat} (hi : i < m.length), i < loR c m → ltT m[i] c = true
  | [], i, hi, _ => by simp at hi
  | x :: l, i, hi, h => by
    simp only [loR] at h
    cases hl : ltT x c with
    | true =>
      rw [hl] at h
      cases i with
      | zero => exact hl
      | succ i => exact loR_lt (m := l) (by simpa using hi) (by simp at h; omega)
    | false => rw [hl] at h; simp at h
theorem loR_ge {c : Trp} : ∀ {m : List Trp} {i : Nat} (hi : i < m.length), RisT m → loR c m ≤ i → ltT m[i] c = false
  | [], i, hi, _, _ => by simp at hi
  | x :: l, i, hi, hr, h => by
    obtain ⟨h1, h2⟩ := List.pairwise_cons.1 hr
    simp only [loR] at h
    cases hl : ltT x c with
    | true =>
      rw [hl] at h
      cases i with
      | zero => simp at h
      | succ i => exact loR_ge (m := l) (by simpa using hi) h2 (by simp at h; omega)
    | false =>
      cases i with
      | zero => exact hl
      | succ i =>
        have hi' : i < l.length := by simpa using hi
        cases hb : ltT (x :: l)[i + 1] c with
        | false => rfl
        | true =>
          exfalso
          have g1 := h1 l[i] (List.getElem_mem hi')
          have g2 := (ltT_iff _ _).1 hb
          have : ltT x c = true := (ltT_iff _ _).2 (g1.trans g2)
          rw [hl] at this
          cases this
theorem hitR_at {c : Trp} : ∀ {m : List Trp} (h : loR c m < m.length), hitR c m = (eqI m[loR c m].1 c.1 && eqI m[loR c m].2.1 c.2.1)
  | [], h => by simp at h
  | x :: l, h => by
    cases hl : ltT x c with
    | true =>
      have e : loR c (x :: l) = loR c l + 1 := by simp only [loR, hl]
      have h' : loR c l < l.length := by rw [e] at h; simpa using h
      simp only [hitR, hl, hitR_at h', e, List.getElem_cons_succ]
    | false =>
      have e : loR c (x :: l) = 0 := by simp only [loR, hl]
      simp only [hitR, hl, e, List.getElem_cons_zero]
theorem hitR_end {c : Trp} : ∀ {m : List Trp}, loR c m = m.length → hitR c m = false
  | [], _ => rfl
  | x :: l, h => by
    simp only [loR] at h
    simp only [hitR]
    cases hl : ltT x c with
    | true =>
      rw [hl] at h
      exact hitR_end (by simpa using h)
    | false => rw [hl] at h; simp at h
end Go.Am
end
