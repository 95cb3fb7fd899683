/- Part of the proof: AmC8, AmC9, AmC10. -/
import Derived.Test.YthfacindpgoedaaGreatDoorFn2
set_option linter.unusedSimpArgs false
set_option linter.unusedVariables false
section
namespace Go.Am
open Go Go.RowKit

/-! A list that fills its block, as the reference's Net keeps it. -/
def FullT (N : Nat) (H : AHeap) (v : AVal) (m : List Trp) : Prop :=
  (v = .snil ∧ m = []) ∨ ∃ b, v = .sl b 0 m.length m.length 0 ∧ PT.get b H.t = some (.cells (tripVals m) false false) ∧ N ≤ b.toNat ∧ b.toNat < H.nx.toNat
theorem FullT.keep {N K : Nat} {H H' : AHeap} {v : AVal} {m : List Trp} (h : FullT N H v m) (k : Keep K H H') (hK : K = H.nx.toNat) : FullT N H' v m := by
  rcases h with h | ⟨b, e, h1, h2, h3⟩
  · exact .inl h
  · exact .inr ⟨b, e, by rw [k.get b (by omega)]; exact h1, h2, Nat.lt_of_lt_of_le h3 k.nx⟩
theorem FullT.reads {N : Nat} {H : AHeap} {v : AVal} {m : List Trp} (h : FullT N H v m) : TReads H.nx.toNat H v m := by
  rcases h with h | ⟨b, e, h1, h2, h3⟩
  · exact .inl h
  · refine .inr ⟨b, 0, m.length, 0, e, ?_, h3, .inl rfl, Nat.le_refl _⟩
    rw [hloadN_at h1 (by rw [tripVals_length]; omega), List.drop_zero, List.take_of_length_le (by rw [tripVals_length]; omega)]
theorem src_part {H : AHeap} {b : Pos} {m : List Trp} {op ro : Bool} (h : PT.get b H.t = some (.cells (tripVals m) op ro)) {i k cap sz : Nat} (hi : i + k ≤ m.length) : srcCells H 3 (.sl b (i * 3) k cap sz) = some (k, tripVals ((m.drop i).take k)) := by
  unfold srcCells
  have : hloadN H b (i * 3) (Nat.mul k 3) = some (tripVals ((m.drop i).take k)) := by
    rw [hloadN_at h (by rw [tripVals_length]; show i * 3 + k * 3 ≤ _; omega)]
    rw [tripVals_drop, show Nat.mul k 3 = k * 3 from rfl, tripVals_take]
  simp only [this]
theorem FullT.lo {N : Nat} {H : AHeap} {v : AVal} {m : List Trp} (h : FullT N H v m) {k : Nat} (hk : k ≤ m.length) :
    ∃ v', (∀ (t : PT AVal) (Y : AOpnd), Y.ev t = .int .i64 (.ofNat k) → sliceA t (.sl 3) v none (some Y) none = some v') ∧ ∀ H', Keep H.nx.toNat H H' → srcCells H' 3 v' = some (k, tripVals (m.take k)) := by
  rcases h with ⟨rfl, rfl⟩ | ⟨b, rfl, h1, h2, h3⟩
  · have hk : k = 0 := by simpa using hk
    subst hk
    refine ⟨.snil, fun t Y hY => ?_, fun H' _ => rfl⟩
    simp only [sliceA, boundOf, hY, natOf]
    try rfl
  · refine ⟨.sl b 0 k m.length 0, fun t Y hY => ?_, fun H' hK => ?_⟩
    · have e1 : Nat.ble k m.length = true := ble_t hk
      have e2 : Nat.ble 0 k = true := ble_t (Nat.zero_le _)
      simp only [sliceA, boundOf, hY, natOf, e1, e2, nsub]
      cases hm : Nat.beq m.length 0 <;> rfl
    · have := src_part (H := H') (b := b) (m := m) (by rw [hK.get b h3]; exact h1) (i := 0) (k := k) (cap := m.length) (sz := 0) (by omega)
      simpa using this
theorem FullT.hi {N : Nat} {H : AHeap} {v : AVal} {m : List Trp} (h : FullT N H v m) {k : Nat} (hk : k ≤ m.length) :
    ∃ v', (∀ (t : PT AVal) (Y : AOpnd), Y.ev t = .int .i64 (.ofNat k) → sliceA t (.sl 3) v (some Y) none none = some v') ∧ ∀ H', Keep H.nx.toNat H H' → srcCells H' 3 v' = some (m.length - k, tripVals (m.drop k)) := by
  rcases h with ⟨rfl, rfl⟩ | ⟨b, rfl, h1, h2, h3⟩
  · have hk : k = 0 := by simpa using hk
    subst hk
    refine ⟨.snil, fun t Y hY => ?_, fun H' _ => rfl⟩
    simp only [sliceA, boundOf, hY, natOf]
    try rfl
  · have e1 : Nat.ble k m.length = true := ble_t hk
    have e2 : Nat.ble m.length m.length = true := ble_t (Nat.le_refl _)
    by_cases hkm : k = m.length
    · subst hkm
      refine ⟨.sl b 0 0 0 0, fun t Y hY => ?_, fun H' hK => ?_⟩
      · have e3 : Nat.beq m.length m.length = true := by simp
        simp only [sliceA, boundOf, hY, natOf, e2, e3, nsub, Nat.sub_self]
      · have := src_part (H := H') (b := b) (m := m) (by rw [hK.get b h3]; exact h1) (i := 0) (k := 0) (cap := 0) (sz := 0) (by omega)
        simpa using this
    · refine ⟨.sl b (k * 3) (m.length - k) (m.length - k) 0, fun t Y hY => ?_, fun H' hK => ?_⟩
      · have e3 : Nat.beq m.length k = false := by
          cases hb : Nat.beq m.length k with
          | false => rfl
          | true => exact absurd (Nat.eq_of_beq_eq_true hb).symm hkm
        simp only [sliceA, boundOf, hY, natOf, e1, e2, e3, nsub]
        have : Nat.add 0 (Nat.mul k 3) = k * 3 := by show 0 + k * 3 = _; omega
        rw [this]
      · have := src_part (H := H') (b := b) (m := m) (by rw [hK.get b h3]; exact h1) (i := k) (k := m.length - k) (cap := m.length - k) (sz := 0) (by omega)
        rw [this, List.take_of_length_le (by rw [List.length_drop]; omega)]
/-- Triples behind triples, where there is room. -/
theorem append_trooms {H : AHeap} {b : Pos} {ts us : List Trp} {rest : List AVal} {x : AVal} {k cap by' : Nat} (hb : PT.get b H.t = some (.cells (tripVals ts ++ rest) false false)) (hk : k = us.length) (hc : ts.length + us.length ≤ cap) (hr : us.length * 3 ≤ rest.length) (hx : srcCells H 3 x = some (k, tripVals us)) :
    appendA H 3 by' (.sl b 0 ts.length cap 0) x = some (.sl b 0 (ts ++ us).length cap 0, H.upd b (.cells (tripVals (ts ++ us) ++ rest.drop (us.length * 3)) false false)) := by
  subst hk
  unfold appendA
  rw [hx]
  have e1 : Nat.ble (Nat.add ts.length us.length) cap = true := ble_t hc
  have e2 : hstoreN H b (Nat.add 0 (Nat.mul ts.length 3)) (tripVals us) = some (H.upd b (.cells (tripVals (ts ++ us) ++ rest.drop (us.length * 3)) false false)) := by
    unfold hstoreN
    rw [hb, show Nat.add 0 (Nat.mul ts.length 3) = ts.length * 3 by show 0 + ts.length * 3 = _; omega]
    simp only [allScal_trips]
    have hl := tripVals_length ts
    have hu := tripVals_length us
    rw [lput_of _ _ _ (by simp [hl, hu]; omega)]
    have h1 : List.take (ts.length * 3) (tripVals ts ++ rest) = tripVals ts := by rw [← hl]; simp
    have h2 : List.drop (ts.length * 3 + (tripVals us).length) (tripVals ts ++ rest) = rest.drop (us.length * 3) := by
      rw [← hl, List.drop_append, hu]
      simp
    rw [h1, h2, tripVals_append]
  simp only [e1, e2]
  rw [List.length_append]
  rfl
/-- A triple written in its place. -/
theorem store_trip {H : AHeap} {b : Pos} {m : List Trp} {op : Bool} (hb : PT.get b H.t = some (.cells (tripVals m) op false)) {i : Nat} (hi : i < m.length) (c : Trp) :
    hstoreN H b (0 + i * 3) (cell3 c) = some (H.upd b (.cells (tripVals (m.take i ++ c :: m.drop (i + 1))) op false)) := by
  unfold hstoreN
  rw [hb]
  have hs : allScal (cell3 c) = true := rfl
  simp only [hs]
  have hl := tripVals_length m
  rw [lput_of _ _ _ (by simp only [hl, List.length_cons, List.length_nil]; omega)]
  simp only [Nat.zero_add, List.length_cons, List.length_nil]
  rw [tripVals_append, tripVals_take, show i * 3 + 3 = (i + 1) * 3 by omega, tripVals_drop]
  obtain ⟨u, v, g⟩ := c
  simp [tripVals]
theorem rem_idx (i : Int) {n : Nat} (hn : 0 < n) (hn' : n ≤ 1000000) : ∃ r s j, binOpA .rem (.int .i64 i) (.int .i64 (.ofNat n)) = some (.int .i64 r) ∧ binOpA .add (.int .i64 r) (.int .i64 (.ofNat n)) = some (.int .i64 s) ∧ binOpA .rem (.int .i64 s) (.int .i64 (.ofNat n)) = some (.int .i64 (.ofNat j)) ∧ j < n := by
  obtain ⟨m, rfl⟩ : ∃ m, n = m + 1 := ⟨n - 1, by omega⟩
  refine ⟨remI i (.ofNat (m + 1)), _, (Int.toNat (Int.tmod (Int.tmod i (m + 1) + (m + 1)) (m + 1))), rfl, rfl, ?_, ?_⟩
  · show some (AVal.int .i64 (remI (wrapI .i64 (addI (remI i (.ofNat (m + 1))) (.ofNat (m + 1)))) (.ofNat (m + 1)))) = _
    rw [remI_eq, remI_eq, wrapI_eq, addI_eq]
    have h1 : Int.ofNat (m + 1) = ((m : Int) + 1) := rfl
    rw [h1]
    have h2 := Int.lt_tmod_of_pos i (show (0 : Int) < (m : Int) + 1 by omega)
    have h3 := Int.tmod_lt_of_pos i (show (0 : Int) < (m : Int) + 1 by omega)
    have h4 : IntKind.wrap .i64 (Int.tmod i (m + 1) + (m + 1)) = Int.tmod i (m + 1) + (m + 1) := by
      have h9 : ∀ n : Int, 0 ≤ n → n < 9223372036854775808 → IntKind.wrap .i64 n = n := by
        intro n g0 g1
        simp [IntKind.wrap, IntKind.bits, IntKind.signed]
        omega
      exact h9 _ (by omega) (by omega)
    rw [h4]
    have h5 : 0 ≤ Int.tmod (Int.tmod i (m + 1) + (m + 1)) (m + 1) := Int.tmod_nonneg _ (by omega)
    congr 2
    exact (Int.toNat_of_nonneg h5).symm
  · have h2 := Int.lt_tmod_of_pos i (show (0 : Int) < (m : Int) + 1 by omega)
    have h3 := Int.tmod_lt_of_pos (Int.tmod i (m + 1) + (m + 1)) (show (0 : Int) < (m : Int) + 1 by omega)
    omega
theorem net_call {E : Env} {N : Nat} {H : AHeap} {x : AVal} {ts : List Trp} (hs : PT.get (Pos.ofNat 7) E.sums = some sNet) (hx : TReads N H x ts) (hl : ts.length ≤ 1000000) : ∃ v H', CallS E 7 [x] H v H' ∧ FullT H.nx.toNat H' v (netT ts) ∧ Keep H.nx.toNat H H' := by
  have e : tripsAt H x = some ts := by
    rcases hx with ⟨rfl, rfl⟩ | ⟨b, o, cap, sz, rfl, h1, h2, h3, h4⟩
    · rfl
    · have e1 : Nat.ble ts.length cap = true := ble_t h4
      have e2 : hloadN H b o (Nat.mul ts.length 3) = some (tripVals ts) := h1
      rcases h3 with rfl | rfl <;> simp only [tripsAt, e1, e2, tripsOf_vals]
  have e2 : Nat.ble ts.length 100000000 = true := ble_t (by omega)
  refine ⟨_, _, CallS.sum (by decide) hs (by simp only [sNet, e, e2]; rfl), .inr ⟨H.nx, rfl, get_new, Nat.le_refl _, ?_⟩, keep_new⟩
  rw [nx_new]; omega
end Go.Am
end

section
namespace Go.Am
open Go Go.RowKit
section
variable {E : Env}
theorem hloadN_keep {K : Nat} {H H' : AHeap} {b : Pos} {o n : Nat} {l : List AVal} (k : Keep K H H') (hb : b.toNat < K) (h : hloadN H b o n = some l) : hloadN H' b o n = some l := by
  unfold hloadN at h ⊢
  rw [k.get b hb]
  exact h
/-- The search for the place. -/
theorem search_loop (C : CodeOkC E) {H0 : AHeap} {K i : Nat} {x v : AVal} {m : List Trp} {c : Trp} {bc : Pos} (hv : TReads K H0 v m) (hm : RisT m) (hl : m.length ≤ 1000000) (hK : K ≤ H0.nx.toNat) (hc : hloadN H0 bc 0 3 = some (cell3 c)) (hbc : bc.toNat < K) {ro : Option Pos} :
    ∀ (n : Nat) (t : PT AVal) (H : AHeap), (∃ lo hi, n = hi - lo ∧ lo ≤ hi ∧ hi ≤ m.length ∧ lo ≤ loR c m ∧ loR c m ≤ hi ∧ tget t (Pos.ofNat 3) = v ∧ tget t (Pos.ofNat 5) = .ptr bc 0 ∧ tget t (Pos.ofNat 6) = .int .i64 (.ofNat lo) ∧ tget t (Pos.ofNat 7) = .int .i64 (.ofNat hi) ∧ tget t (Pos.ofNat 0) = x ∧ tget t (Pos.ofNat 4) = .int .i64 (.ofNat i) ∧ Keep K H0 H) →
    W E (.loop g8l13) ro ⟨t, []⟩ H (fun e a H' => e = .exit 2 ∧ a.ds = [] ∧ tget a.t (Pos.ofNat 3) = v ∧ tget a.t (Pos.ofNat 5) = .ptr bc 0 ∧ tget a.t (Pos.ofNat 6) = .int .i64 (.ofNat (loR c m)) ∧ tget a.t (Pos.ofNat 0) = x ∧ tget a.t (Pos.ofNat 4) = .int .i64 (.ofNat i) ∧ Keep K H0 H') := by
  refine W.loop_inv (Q := fun e a H' => e = .exit 2 ∧ a.ds = [] ∧ tget a.t (Pos.ofNat 3) = v ∧ tget a.t (Pos.ofNat 5) = .ptr bc 0 ∧ tget a.t (Pos.ofNat 6) = .int .i64 (.ofNat (loR c m)) ∧ tget a.t (Pos.ofNat 0) = x ∧ tget a.t (Pos.ofNat 4) = .int .i64 (.ofNat i) ∧ Keep K H0 H') _ ?_
  rintro n t H ⟨lo, hi, hn, h01, h02, h03, h04, h3, h5, h6, h7, h0, h4, hk⟩
  refine W.seq (W.seq (W.region ?_))
  simp (maxDischargeDepth := 9) only [auW, auC, auT, lget, BEq.rfl, beq_self_eq_true, decide_true, decide_false, reduceCtorEq, Nat.reduceLT, Nat.reduceEqDiff, ↓reduceIte, g8r8, h6, h7]
  refine W.cond_if (p := lo < hi) (by simp [AOpnd.ev, tget_puts]) (fun hlt => W.skip ?_) (fun hge => W.exit ?_)
  rotate_left
  · have e : loR c m = lo := by omega
    rw [e]
    refine ⟨by trivial, by trivial, ?_, ?_, ?_, ?_, ?_, hk⟩
    · simp only [tget_puts, Nat.reduceLT, Nat.reduceEqDiff, ↓reduceIte, h3]
    · simp only [tget_puts, Nat.reduceLT, Nat.reduceEqDiff, ↓reduceIte, h5]
    · simp only [tget_puts, Nat.reduceLT, Nat.reduceEqDiff, ↓reduceIte, h6]
    · simp only [tget_puts, Nat.reduceLT, Nat.reduceEqDiff, ↓reduceIte, h0]
    · simp only [tget_puts, Nat.reduceLT, Nat.reduceEqDiff, ↓reduceIte, h4]
  simp only [andThen]
  have hkm : (lo + hi) / 2 < m.length := by omega
  obtain ⟨b, o, e1, e2, _⟩ := (hv.keep hk (Nat.le_refl _)).fIdx hkm
  have hc' := hloadN_keep hk hbc hc
  refine W.block (W.seq (W.region ?_))
  simp (maxDischargeDepth := 9) only [auW, auC, auT, lget, BEq.rfl, beq_self_eq_true, decide_true, decide_false, reduceCtorEq, Nat.reduceLT, Nat.reduceEqDiff, ↓reduceIte, g8r9, h6, h7, b_add (show lo + hi ≤ 9223372036854775807 by omega), b_quo (show 0 < 2 by omega) (show lo + hi ≤ 9223372036854775807 by omega)]
  simp only [andThen]
  refine W.seq (W.draw ?_)
  simp (maxDischargeDepth := 9) only [auD, auC, auT, lget, BEq.rfl, beq_self_eq_true, decide_true, decide_false, reduceCtorEq, Nat.reduceLT, Nat.reduceEqDiff, ↓reduceIte, g8d10, h3, h5, e1, fLoadN, e2, hc']
  obtain ⟨vb, H1, hcall, rfl, hk1, _⟩ := before_ok C (H := H) m[(lo + hi) / 2] c
  have hKH : K ≤ H.nx.toNat := Nat.le_trans hK hk.nx
  refine wd_callE hcall (by simp only [auT, Nat.reduceLT, Nat.reduceEqDiff, ↓reduceIte]) (by repeat (first | exact again_nil' | refine again_skip rfl ?_)) ?_
  simp (maxDischargeDepth := 9) only [auD, auC, auT, lget, BEq.rfl, beq_self_eq_true, decide_true, decide_false, reduceCtorEq, Nat.reduceLT, Nat.reduceEqDiff, ↓reduceIte]
  simp only [andThen]
  cases hb : ltT m[(lo + hi) / 2] c with
  | true =>
    have hlo : (lo + hi) / 2 < loR c m := by
      rcases Nat.lt_or_ge ((lo + hi) / 2) (loR c m) with h | h
      · exact h
      · rw [loR_ge hkm hm h] at hb; cases hb
    refine W.cond_true (by simp [AOpnd.ev, tget_puts]) (W.region ?_)
    simp (maxDischargeDepth := 9) only [auW, auC, auT, lget, BEq.rfl, beq_self_eq_true, decide_true, decide_false, reduceCtorEq, Nat.reduceLT, Nat.reduceEqDiff, ↓reduceIte, g8r11, b_add (show (lo + hi) / 2 + 1 ≤ 9223372036854775807 by omega)]
    simp only [inBlock]
    refine ⟨by trivial, hi - ((lo + hi) / 2 + 1), by omega, (lo + hi) / 2 + 1, hi, rfl, by omega, h02, by omega, h04, ?_, ?_, ?_, ?_, ?_, ?_, hk.trans (hk1.mono hKH)⟩
    · simp only [tget_puts, Nat.reduceLT, Nat.reduceEqDiff, ↓reduceIte, h3]
    · simp only [tget_puts, Nat.reduceLT, Nat.reduceEqDiff, ↓reduceIte, h5]
    · simp only [tget_puts, Nat.reduceLT, Nat.reduceEqDiff, ↓reduceIte]
    · simp only [tget_puts, Nat.reduceLT, Nat.reduceEqDiff, ↓reduceIte, h7]
    · simp only [tget_puts, Nat.reduceLT, Nat.reduceEqDiff, ↓reduceIte, h0]
    · simp only [tget_puts, Nat.reduceLT, Nat.reduceEqDiff, ↓reduceIte, h4]
  | false =>
    have hlo : loR c m ≤ (lo + hi) / 2 := by
      rcases Nat.lt_or_ge ((lo + hi) / 2) (loR c m) with h | h
      · rw [loR_lt hkm h] at hb; cases hb
      · exact h
    refine W.cond_false (by simp [AOpnd.ev, tget_puts]) (W.region ?_)
    simp (maxDischargeDepth := 9) only [auW, auC, auT, lget, BEq.rfl, beq_self_eq_true, decide_true, decide_false, reduceCtorEq, Nat.reduceLT, Nat.reduceEqDiff, ↓reduceIte, g8r12]
    simp only [inBlock]
    refine ⟨by trivial, (lo + hi) / 2 - lo, by omega, lo, (lo + hi) / 2, rfl, by omega, by omega, h03, hlo, ?_, ?_, ?_, ?_, ?_, ?_, hk.trans (hk1.mono hKH)⟩
    · simp only [tget_puts, Nat.reduceLT, Nat.reduceEqDiff, ↓reduceIte, h3]
    · simp only [tget_puts, Nat.reduceLT, Nat.reduceEqDiff, ↓reduceIte, h5]
    · simp only [tget_puts, Nat.reduceLT, Nat.reduceEqDiff, ↓reduceIte, h6]
    · simp only [tget_puts, Nat.reduceLT, Nat.reduceEqDiff, ↓reduceIte]
    · simp only [tget_puts, Nat.reduceLT, Nat.reduceEqDiff, ↓reduceIte, h0]
    · simp only [tget_puts, Nat.reduceLT, Nat.reduceEqDiff, ↓reduceIte, h4]
end
end Go.Am
end

section
namespace Go.Am
open Go Go.RowKit
section
variable {E : Env}
theorem tripVals_one (c : Trp) : tripVals [c] = cell3 c := by obtain ⟨u, v, g⟩ := c; rfl
/-- A change that is not there yet. -/
theorem ins_new {K lo i : Nat} {t : PT AVal} {H : AHeap} {x v : AVal} {m : List Trp} {c : Trp} {bc : Pos} (h0 : tget t (Pos.ofNat 0) = x) (h3 : tget t (Pos.ofNat 3) = v) (h4 : tget t (Pos.ofNat 4) = .int .i64 (.ofNat i)) (h5 : tget t (Pos.ofNat 5) = .ptr bc 0) (h6 : tget t (Pos.ofNat 6) = .int .i64 (.ofNat lo))
    (hv : FullT K H v m) (hK : K ≤ H.nx.toNat) (hlo : lo ≤ m.length) (hl : m.length ≤ 1000000) (hc : hloadN H bc 0 3 = some (cell3 c)) (hbc : bc.toNat < H.nx.toNat) {ro : Option Pos} :
    W E (.seq (.region g8r16) (.seq (.region g8r17) (.seq (.region g8r18) (.seq (.region g8r19) (.region g8r20))))) ro ⟨t, []⟩ H (fun e a H' => e = .normal ∧ a.ds = [] ∧ tget a.t (Pos.ofNat 0) = x ∧ tget a.t (Pos.ofNat 4) = .int .i64 (.ofNat i) ∧ FullT K H' (tget a.t (Pos.ofNat 3)) (m.take lo ++ c :: m.drop lo) ∧ Keep H.nx.toNat H H') := by
  obtain ⟨v1, s1, c1⟩ := hv.lo hlo
  obtain ⟨v2, s2, c2⟩ := hv.hi hlo
  have s1 : ∀ t : PT AVal, tget t (Pos.ofNat 101) = .int .i64 (.ofNat lo) → sliceA t (.sl 3) v none (some (.t (Pos.ofNat 101))) none = some v1 := fun t h => s1 t _ h
  have s2 : ∀ t : PT AVal, tget t (Pos.ofNat 110) = .int .i64 (.ofNat lo) → sliceA t (.sl 3) v (some (.t (Pos.ofNat 110))) none none = some v2 := fun t h => s2 t _ h
  refine W.seq (W.region ?_)
  simp (maxDischargeDepth := 9) only [auW, auC, auT, lget, BEq.rfl, beq_self_eq_true, decide_true, decide_false, reduceCtorEq, Nat.reduceLT, Nat.reduceEqDiff, ↓reduceIte, g8r16, h3, hv.reads.fLen, b_add (show m.length + 1 ≤ 9223372036854775807 by omega)]
  refine wo_mkSlice (n := 0) (c := m.length + 1) (by simp only [auT, Nat.reduceLT, Nat.reduceEqDiff, ↓reduceIte]; try rfl) (by simp only [auT, Nat.reduceLT, Nat.reduceEqDiff, ↓reduceIte]; try rfl) (by omega) (by omega) (by omega) ?_
  simp (maxDischargeDepth := 9) only [auW, auC, auT, lget, BEq.rfl, beq_self_eq_true, decide_true, decide_false, reduceCtorEq, Nat.reduceLT, Nat.reduceEqDiff, ↓reduceIte]
  simp only [andThen]
  have hk1 : Keep H.nx.toNat H (H.new (.cells (repl [.int .i64 (.ofNat 0), .int .i64 (.ofNat 0), .bool false] (m.length + 1)) false false)).2 := keep_new
  have hg1 : PT.get H.nx (H.new (.cells (repl [.int .i64 (.ofNat 0), .int .i64 (.ofNat 0), .bool false] (m.length + 1)) false false)).2.t = some (.cells (tripVals ([] : List Trp) ++ repl [.int .i64 (.ofNat 0), .int .i64 (.ofNat 0), .bool false] (m.length + 1)) false false) := get_new
  have hn1 : (H.new (.cells (repl [.int .i64 (.ofNat 0), .int .i64 (.ofNat 0), .bool false] (m.length + 1)) false false)).2.nx = H.nx.succ := rfl
  have hr1 : (repl [AVal.int .i64 (.ofNat 0), .int .i64 (.ofNat 0), .bool false] (m.length + 1)).length = (m.length + 1) * 3 := by rw [repl3_length]
  generalize repl [AVal.int .i64 (.ofNat 0), .int .i64 (.ofNat 0), .bool false] (m.length + 1) = R0 at hr1 hk1 hg1 hn1 ⊢
  generalize (H.new (.cells R0 false false)).2 = H1 at hk1 hg1 hn1 ⊢
  have htl : (m.take lo).length = lo := by rw [List.length_take]; omega
  refine W.seq (W.region ?_)
  simp (maxDischargeDepth := 9) only [auW, auC, auT, lget, BEq.rfl, beq_self_eq_true, decide_true, decide_false, reduceCtorEq, Nat.reduceLT, Nat.reduceEqDiff, ↓reduceIte, g8r17, h3, h6, s1]
  refine wo_appendE (append_trooms (ts := []) (us := m.take lo) (cap := m.length + 1) (by' := 24) hg1 htl.symm (by simp; omega) (by omega) (c1 H1 hk1)) (by simp only [auT, Nat.reduceLT, Nat.reduceEqDiff, ↓reduceIte]; try rfl) (by simp only [auT, Nat.reduceLT, Nat.reduceEqDiff, ↓reduceIte]; try rfl) ?_
  simp (maxDischargeDepth := 9) only [auW, auC, auT, lget, BEq.rfl, beq_self_eq_true, decide_true, decide_false, reduceCtorEq, Nat.reduceLT, Nat.reduceEqDiff, ↓reduceIte]
  simp only [andThen, List.nil_append]
  have hk2 : Keep H.nx.toNat H1 (H1.upd H.nx (.cells (tripVals (m.take lo) ++ R0.drop ((m.take lo).length * 3)) false false)) := keep_upd (Nat.le_refl _)
  have hg2 : PT.get H.nx (H1.upd H.nx (.cells (tripVals (m.take lo) ++ R0.drop ((m.take lo).length * 3)) false false)).t = some (.cells (tripVals (m.take lo) ++ R0.drop ((m.take lo).length * 3)) false false) := get_upd
  have hn2 : (H1.upd H.nx (.cells (tripVals (m.take lo) ++ R0.drop ((m.take lo).length * 3)) false false)).nx = H.nx.succ := hn1
  have hr2 : (R0.drop ((m.take lo).length * 3)).length = (m.length + 1 - lo) * 3 := by rw [List.length_drop, htl]; omega
  generalize R0.drop ((m.take lo).length * 3) = R1 at hk2 hg2 hn2 hr2 ⊢
  generalize (H1.upd H.nx (.cells (tripVals (m.take lo) ++ R1) false false)) = H2 at hk2 hg2 hn2 ⊢
  have hk12 := hk1.trans hk2
  have hc2 := hloadN_keep hk12 hbc hc
  refine W.seq (W.region ?_)
  simp (maxDischargeDepth := 9) only [auW, auC, auT, lget, BEq.rfl, beq_self_eq_true, decide_true, decide_false, reduceCtorEq, Nat.reduceLT, Nat.reduceEqDiff, ↓reduceIte, g8r18, h5, fLoadN, hc2]
  refine wo_buildSlice (vs := cell3 c) (by simp [fillA, AOpnd.ev, tget_puts, vcellsO, lput, lover]) ?_
  have hne : H.nx ≠ H2.nx := fun e => by
    have := congrArg Pos.toNat e
    rw [hn2, Pos.toNat_succ] at this; omega
  have hg3 : PT.get H.nx (H2.new (.cells (cell3 c) false false)).2.t = some (.cells (tripVals (m.take lo) ++ R1) false false) := by
    rw [get_new_other hne]; exact hg2
  refine wo_appendE (append_trooms (ts := m.take lo) (us := [c]) (k := 1) (cap := m.length + 1) (by' := 24) hg3 rfl (by simp; omega) (by simp; omega) (by rw [tripVals_one]; exact trip_src)) (by simp only [auT, Nat.reduceLT, Nat.reduceEqDiff, ↓reduceIte]; try rfl) (by simp only [auT, Nat.reduceLT, Nat.reduceEqDiff, ↓reduceIte]; try rfl) ?_
  simp (maxDischargeDepth := 9) only [auW, auC, auT, lget, BEq.rfl, beq_self_eq_true, decide_true, decide_false, reduceCtorEq, Nat.reduceLT, Nat.reduceEqDiff, ↓reduceIte]
  simp only [andThen]
  have hk3 : Keep H.nx.toNat H2 ((H2.new (.cells (cell3 c) false false)).2.upd H.nx (.cells (tripVals (m.take lo ++ [c]) ++ R1.drop ([c].length * 3)) false false)) := (keep_new.mono (by rw [hn2, Pos.toNat_succ]; omega)).trans (keep_upd (Nat.le_refl _))
  have hg4 : PT.get H.nx ((H2.new (.cells (cell3 c) false false)).2.upd H.nx (.cells (tripVals (m.take lo ++ [c]) ++ R1.drop ([c].length * 3)) false false)).t = some (.cells (tripVals (m.take lo ++ [c]) ++ R1.drop ([c].length * 3)) false false) := get_upd
  have hn4 : ((H2.new (.cells (cell3 c) false false)).2.upd H.nx (.cells (tripVals (m.take lo ++ [c]) ++ R1.drop ([c].length * 3)) false false)).nx = H.nx.succ.succ := by
    show H2.nx.succ = _
    rw [hn2]
  have hr4 : (R1.drop ([c].length * 3)).length = (m.length - lo) * 3 := by rw [List.length_drop, hr2]; simp; omega
  generalize R1.drop ([c].length * 3) = R2 at hk3 hg4 hn4 hr4 ⊢
  generalize ((H2.new (.cells (cell3 c) false false)).2.upd H.nx (.cells (tripVals (m.take lo ++ [c]) ++ R2) false false)) = H4 at hk3 hg4 hn4 ⊢
  have hk4 := hk12.trans hk3
  refine W.seq (W.region ?_)
  simp (maxDischargeDepth := 9) only [auW, auC, auT, lget, BEq.rfl, beq_self_eq_true, decide_true, decide_false, reduceCtorEq, Nat.reduceLT, Nat.reduceEqDiff, ↓reduceIte, g8r19, h3, h6, s2]
  have hdl : (m.drop lo).length = m.length - lo := by rw [List.length_drop]
  refine wo_appendE (append_trooms (ts := m.take lo ++ [c]) (us := m.drop lo) (cap := m.length + 1) (by' := 24) hg4 hdl.symm (by simp; omega) (by omega) (c2 H4 hk4)) (by simp only [auT, Nat.reduceLT, Nat.reduceEqDiff, ↓reduceIte]; try rfl) (by simp only [auT, Nat.reduceLT, Nat.reduceEqDiff, ↓reduceIte]; try rfl) ?_
  simp (maxDischargeDepth := 9) only [auW, auC, auT, lget, BEq.rfl, beq_self_eq_true, decide_true, decide_false, reduceCtorEq, Nat.reduceLT, Nat.reduceEqDiff, ↓reduceIte]
  simp only [andThen]
  have hr5 : R2.drop ((m.drop lo).length * 3) = [] := List.drop_eq_nil_of_le (by omega)
  have hcat : m.take lo ++ [c] ++ m.drop lo = m.take lo ++ c :: m.drop lo := by simp
  rw [hr5, List.append_nil, hcat]
  have hlen : (m.take lo ++ c :: m.drop lo).length = m.length + 1 := by simp; omega
  refine W.region ?_
  simp (maxDischargeDepth := 9) only [auW, auC, auT, lget, BEq.rfl, beq_self_eq_true, decide_true, decide_false, reduceCtorEq, Nat.reduceLT, Nat.reduceEqDiff, ↓reduceIte, g8r20]
  refine ⟨by trivial, by trivial, ?_, ?_, .inr ⟨H.nx, ?_, get_upd, hK, ?_⟩, hk4.trans (keep_upd (Nat.le_refl _))⟩
  · simp only [tget_puts, Nat.reduceLT, Nat.reduceEqDiff, ↓reduceIte, h0]
  · simp only [tget_puts, Nat.reduceLT, Nat.reduceEqDiff, ↓reduceIte, h4]
  · rw [hlen]
    try (simp only [tget_puts, Nat.reduceLT, Nat.reduceEqDiff, ↓reduceIte])
  · show H.nx.toNat < H4.nx.toNat
    rw [hn4]; simp only [Pos.toNat_succ]; omega
/-- A change that takes an older one's place. -/
theorem ins_hit {K lo i : Nat} {t : PT AVal} {H : AHeap} {x v : AVal} {m : List Trp} {c : Trp} {bc : Pos} (h0 : tget t (Pos.ofNat 0) = x) (h3 : tget t (Pos.ofNat 3) = v) (h4 : tget t (Pos.ofNat 4) = .int .i64 (.ofNat i)) (h5 : tget t (Pos.ofNat 5) = .ptr bc 0) (h6 : tget t (Pos.ofNat 6) = .int .i64 (.ofNat lo))
    (hv : FullT K H v m) (hlo : lo < m.length) (hc : hloadN H bc 0 3 = some (cell3 c)) {ro : Option Pos} :
    W E (.seq (.region g8r15) (.exit 1)) ro ⟨t, []⟩ H (fun e a H' => e = .exit 1 ∧ a.ds = [] ∧ tget a.t (Pos.ofNat 0) = x ∧ tget a.t (Pos.ofNat 4) = .int .i64 (.ofNat i) ∧ FullT K H' (tget a.t (Pos.ofNat 3)) (m.take lo ++ c :: m.drop (lo + 1)) ∧ Keep K H H') := by
  rcases hv with ⟨rfl, rfl⟩ | ⟨b, rfl, hb, hKb, hbl⟩
  · simp at hlo
  have hidx : fIdxS 3 (.sl b 0 m.length m.length 0) (.int .i64 (.ofNat lo)) = some (.ptr b (0 + lo * 3)) := by
    simp only [fIdxS, natOf, blt_t hlo]
    rfl
  refine W.seq (W.region ?_)
  simp (maxDischargeDepth := 9) only [auW, auC, auT, lget, BEq.rfl, beq_self_eq_true, decide_true, decide_false, reduceCtorEq, Nat.reduceLT, Nat.reduceEqDiff, ↓reduceIte, g8r15, h3, h5, h6, fLoadN, hc, hidx]
  refine wo_store (b := b) (o := 0 + lo * 3) (vs := cell3 c) (by simp only [auT, Nat.reduceLT, Nat.reduceEqDiff, ↓reduceIte]; try rfl) (by simp only [auT, Nat.reduceLT, Nat.reduceEqDiff, ↓reduceIte]; try rfl) rfl (store_trip hb hlo c) ?_
  simp (maxDischargeDepth := 9) only [auW, auC, auT, lget, BEq.rfl, beq_self_eq_true, decide_true, decide_false, reduceCtorEq, Nat.reduceLT, Nat.reduceEqDiff, ↓reduceIte]
  simp only [andThen]
  have hlen : (m.take lo ++ c :: m.drop (lo + 1)).length = m.length := by simp; omega
  refine W.exit ⟨by trivial, by trivial, ?_, ?_, .inr ⟨b, ?_, get_upd, hKb, hbl⟩, keep_upd hKb⟩
  · simp only [tget_puts, Nat.reduceLT, Nat.reduceEqDiff, ↓reduceIte, h0]
  · simp only [tget_puts, Nat.reduceLT, Nat.reduceEqDiff, ↓reduceIte, h4]
  · rw [hlen]
    simp only [tget_puts, Nat.reduceLT, Nat.reduceEqDiff, ↓reduceIte, h3]
end
end Go.Am
end
