/- Part of the proof: AmC6, AmC8, AmX1, AmM1. -/
import Derived.Test.YtpphacngohhmhaaGreatDoorFn1
import Derived.Test.YtpphacngohhmhaaGreatDoorNet2
set_option linter.unusedSimpArgs false
set_option linter.unusedVariables false
section
namespace Go.Am
open Go Go.RowKit
section
variable {E : Env}
theorem stays_loop2 {n cap : Nat} {b : Pos} {H0 : AHeap} (hn : n ≤ 1000000) {ro : Option Pos} :
    ∀ (k : Nat) (t : PT AVal) (H : AHeap), (∃ i l, i + k = n ∧ tget t (Pos.ofNat 0) = .sl b 0 n cap 3 ∧ tget t (Pos.ofNat 6) = .int .i64 (.ofNat i) ∧ tget t (Pos.ofNat 5) = .bool true ∧ PT.get b H.t = some (.cells l true false) ∧ n * 3 ≤ l.length ∧ (∀ p, p ≠ b → PT.get p H.t = PT.get p H0.t)) →
    W E (.loop g10l6) ro ⟨t, []⟩ H (fun e a H' => e = .exit 0 ∧ a.ds = [] ∧ tget a.t (Pos.ofNat 5) = .bool true ∧ (∀ p, p ≠ b → PT.get p H'.t = PT.get p H0.t)) := by
  refine W.loop_inv (Q := fun e a H' => e = .exit 0 ∧ a.ds = [] ∧ tget a.t (Pos.ofNat 5) = .bool true ∧ (∀ p, p ≠ b → PT.get p H'.t = PT.get p H0.t)) _ ?_
  rintro k t H ⟨i, l, hi, h0, h6, h5, hb, hl, hk⟩
  refine W.seq (W.seq (W.region ?_))
  have hlen : fLen H 1 (.sl b 0 n cap 3) = some (.int .i64 (.ofNat n)) := rfl
  simp (maxDischargeDepth := 9) only [auW, auC, auT, lget, BEq.rfl, beq_self_eq_true, decide_true, decide_false, reduceCtorEq, Nat.reduceLT, Nat.reduceEqDiff, ↓reduceIte, g10r3, h0, h6, hlen]
  refine W.cond_if (p := i < n) (by simp [AOpnd.ev, tget_puts]) (fun hlt => W.skip ?_) (fun hge => W.exit ?_)
  rotate_left
  · refine ⟨by trivial, by trivial, ?_, hk⟩
    simp only [tget_puts, Nat.reduceLT, Nat.reduceEqDiff, ↓reduceIte, h5]
  simp only [andThen]
  refine W.seq (W.block (W.region ?_))
  have hidx : fIdxS 3 (.sl b 0 n cap 3) (.int .i64 (.ofNat i)) = some (.ptr b (0 + i * 3)) := by
    simp only [fIdxS, natOf, blt_t hlt]
    rfl
  simp (maxDischargeDepth := 9) only [auW, auC, auT, lget, BEq.rfl, beq_self_eq_true, decide_true, decide_false, reduceCtorEq, Nat.reduceLT, Nat.reduceEqDiff, ↓reduceIte, g10r4, h0, h6]
  refine wo_buildE (vs := [.int .i64 (.negSucc 0), .int .i64 (.negSucc 1), .bool false]) (by simp [fillA, AOpnd.ev, vcellsO, lput, lover]) ?_
  simp (maxDischargeDepth := 9) only [auW, auC, auT, lget, BEq.rfl, beq_self_eq_true, decide_true, decide_false, reduceCtorEq, Nat.reduceLT, Nat.reduceEqDiff, ↓reduceIte, hidx]
  have hst : hstoreN H b (0 + i * 3) [.int .i64 (.negSucc 0), .int .i64 (.negSucc 1), .bool false] = some (H.upd b (.cells (l.take (0 + i * 3) ++ [.int .i64 (.negSucc 0), .int .i64 (.negSucc 1), .bool false] ++ l.drop (0 + i * 3 + 3)) true false)) := by
    unfold hstoreN
    rw [hb]
    have hs : allScal [AVal.int .i64 (.negSucc 0), .int .i64 (.negSucc 1), .bool false] = true := rfl
    simp only [hs]
    rw [lput_of _ _ _ (by simp only [List.length_cons, List.length_nil]; omega)]
    rfl
  refine wo_store (b := b) (o := 0 + i * 3) (vs := [.int .i64 (.negSucc 0), .int .i64 (.negSucc 1), .bool false]) (by simp only [auT, Nat.reduceLT, Nat.reduceEqDiff, ↓reduceIte]) (by simp only [auT, Nat.reduceLT, Nat.reduceEqDiff, ↓reduceIte]; rfl) rfl hst ?_
  simp (maxDischargeDepth := 9) only [auW, auC, auT, lget, BEq.rfl, beq_self_eq_true, decide_true, decide_false, reduceCtorEq, Nat.reduceLT, Nat.reduceEqDiff, ↓reduceIte]
  simp only [andThen, inBlock]
  refine W.region ?_
  simp (maxDischargeDepth := 9) only [auW, auC, auT, lget, BEq.rfl, beq_self_eq_true, decide_true, decide_false, reduceCtorEq, Nat.reduceLT, Nat.reduceEqDiff, ↓reduceIte, g10r5, h6, b_add (show i + 1 ≤ 9223372036854775807 by omega)]
  refine ⟨by trivial, k - 1, by omega, i + 1, _, by omega, ?_, ?_, ?_, get_upd, ?_, fun p hp => by rw [get_upd_other (fun e => hp e.symm)]; exact hk p hp⟩
  · simp only [tget_puts, Nat.reduceLT, Nat.reduceEqDiff, ↓reduceIte, h0]
  · simp only [tget_puts, Nat.reduceLT, Nat.reduceEqDiff, ↓reduceIte]
  · simp only [tget_puts, Nat.reduceLT, Nat.reduceEqDiff, ↓reduceIte, h5]
  · simp only [List.length_append, List.length_take, List.length_drop, List.length_cons, List.length_nil]; omega

theorem stays_ok2 (C : CodeOkC E) {N : Nat} {H : AHeap} {y : AVal} {b : Pos} {ts : List Trp} (hb : PT.get b H.t = some (.cells (tripVals (ts ++ [mark])) true false)) (hy : TReads N H y ts) (hbN : b.toNat < N) (hl : ts.length ≤ 1000000) :
    ∃ v H', CallS E 10 [.sl b 0 ts.length (ts.length + 1) 3, y] H v H' ∧ v = .bool true ∧ (∀ p, p ≠ b → PT.get p H'.t = PT.get p H.t) := by
  have hm : TReads N H (.sl b 0 ts.length (ts.length + 1) 3) ts := by
    refine .inr ⟨b, 0, ts.length + 1, 3, rfl, ?_, hbN, .inr rfl, by omega⟩
    rw [hloadN_at hb (by rw [tripVals_length, List.length_append, List.length_singleton]; omega), List.drop_zero, tripVals_take]
    simp
  refine CallS.by (R := fun v H' => v = .bool true ∧ (∀ p, p ≠ b → PT.get p H'.t = PT.get p H.t)) (t0 := tput (tput .l (some (Pos.ofNat 0)) (.sl b 0 ts.length (ts.length + 1) 3)) (some (Pos.ofNat 1)) y) (C.s _ rfl) rfl C.f10 rfl ?_
  refine W.seq (W.region ?_)
  simp (maxDischargeDepth := 9) only [auW, auC, auT, lget, BEq.rfl, beq_self_eq_true, decide_true, decide_false, reduceCtorEq, Nat.reduceLT, Nat.reduceEqDiff, ↓reduceIte, g10r0]
  refine W.seq (W.region ?_)
  have hsl : ∀ t : PT AVal, tget t (Pos.ofNat 14) = .int .i64 (.ofNat (ts.length + 1)) → sliceA t (.sl 3) (.sl b 0 ts.length (ts.length + 1) 3) none (some (.t (Pos.ofNat 14))) none = some (.sl b 0 (ts.length + 1) (ts.length + 1) 3) := fun t h => slice_pre3 h (by omega)
  have hidx : fIdxS 3 (.sl b 0 (ts.length + 1) (ts.length + 1) 3) (.int .i64 (.ofNat ts.length)) = some (.ptr b (0 + ts.length * 3)) := by
    simp only [fIdxS, natOf, blt_t (Nat.lt_succ_self ts.length)]
    rfl
  have hld : hload H b (0 + ts.length * 3 + 0) = some (.int .i64 201) := by
    rw [hload_at hb (by rw [tripVals_length, List.length_append, List.length_singleton]; omega)]
    congr 1
    have : (tripVals (ts ++ [mark]))[ts.length * 3]? = some (.int .i64 201) := by
      rw [tripVals_append, List.getElem?_append_right (by rw [tripVals_length]; omega), tripVals_length]
      simp [tripVals]
    obtain ⟨h1, h2⟩ := List.getElem?_eq_some_iff.1 this
    simpa using h2
  simp (maxDischargeDepth := 9) only [auW, auC, auT, lget, BEq.rfl, beq_self_eq_true, decide_true, decide_false, reduceCtorEq, Nat.reduceLT, Nat.reduceEqDiff, ↓reduceIte, g10r1]
  refine wo_callE (same_ok C hm hy (by omega)) (by simp only [auT, Nat.reduceLT, Nat.reduceEqDiff, ↓reduceIte]) ?_
  simp (maxDischargeDepth := 9) only [auW, auC, auT, lget, BEq.rfl, beq_self_eq_true, decide_true, decide_false, reduceCtorEq, Nat.reduceLT, Nat.reduceEqDiff, ↓reduceIte, hy.fLen2, b_add (show ts.length + 1 ≤ 9223372036854775807 by omega), hsl, hidx, hld, eq_self]
  simp only [andThen]
  refine W.seq (W.seq (W.region ?_))
  simp (maxDischargeDepth := 9) only [auW, auC, auT, lget, BEq.rfl, beq_self_eq_true, decide_true, decide_false, reduceCtorEq, Nat.reduceLT, Nat.reduceEqDiff, ↓reduceIte, g10r2]
  refine W.block (W.mono (stays_loop2 (n := ts.length) (cap := ts.length + 1) (b := b) hl ts.length _ _ ⟨0, tripVals (ts ++ [mark]), by omega, ?_, ?_, ?_, hb, ?_, fun _ _ => rfl⟩) ?_)
  · simp only [tget_puts, Nat.reduceLT, Nat.reduceEqDiff, ↓reduceIte]
  · simp only [tget_puts, Nat.reduceLT, Nat.reduceEqDiff, ↓reduceIte]
  · simp only [tget_puts, Nat.reduceLT, Nat.reduceEqDiff, ↓reduceIte]
    simp
  · rw [tripVals_length, List.length_append, List.length_singleton]; omega
  rintro e ⟨t', ds⟩ H' ⟨rfl, hd, h5, hk⟩
  have hd : ds = [] := hd
  subst hd
  have h5 : tget t' (Pos.ofNat 5) = .bool true := h5
  simp only [andThen, inBlock, beq_t]
  refine W.seq (W.region ?_)
  simp (maxDischargeDepth := 9) only [auW, auC, auT, lget, BEq.rfl, beq_self_eq_true, decide_true, decide_false, reduceCtorEq, Nat.reduceLT, Nat.reduceEqDiff, ↓reduceIte, g10r7, h5]
  refine W.ret ⟨.inr rfl, rfl, .bool true, ?_, rfl, hk⟩
  simp [resultA, g10, tget_puts]
end
end Go.Am
end

section
namespace Go.Am
open Go Go.RowKit
/-! A list that fills its block. -/
def FullT (N : Nat) (H : AHeap) (v : AVal) (m : List Trp) : Prop :=
  (v = .snil ∧ m = []) ∨ ∃ b, v = .sl b 0 m.length m.length 0 ∧ PT.get b H.t = some (.cells (tripVals m) false false) ∧ N ≤ b.toNat ∧ b.toNat < H.nx.toNat
theorem FullT.keep {N K : Nat} {H H' : AHeap} {v : AVal} {m : List Trp} (h : FullT N H v m) (k : Keep K H H') (hK : K = H.nx.toNat) : FullT N H' v m := by
  rcases h with h | ⟨b, e, h1, h2, h3⟩
  · exact .inl h
  · exact .inr ⟨b, e, by rw [k.get b (by omega)]; exact h1, h2, Nat.lt_of_lt_of_le h3 k.nx⟩
theorem FullT.reads {N : Nat} {H : AHeap} {v : AVal} {m : List Trp} (h : FullT N H v m) : TReads H.nx.toNat H v m := by
  rcases h with h | ⟨b, e, h1, h2, h3⟩
  · exact .inl h
  · refine .inr ⟨b, 0, m.length, 0, e, ?_, h3, .inl rfl, Nat.le_refl _⟩
    rw [hloadN_at h1 (by rw [tripVals_length]; omega), List.drop_zero, List.take_of_length_le (by rw [tripVals_length]; omega)]
theorem net_call {E : Env} {N : Nat} {H : AHeap} {x : AVal} {ts : List Trp} (hs : PT.get (Pos.ofNat 12) E.sums = some sNet) (hx : TReads N H x ts) (hl : ts.length ≤ 1000000) : ∃ v H', CallS E 12 [x] H v H' ∧ FullT H.nx.toNat H' v (netT ts) ∧ Keep H.nx.toNat H H' := by
  have e : tripsAt H x = some ts := by
    rcases hx with ⟨rfl, rfl⟩ | ⟨b, o, cap, sz, rfl, h1, h2, h3, h4⟩
    · rfl
    · have e1 : Nat.ble ts.length cap = true := ble_t h4
      have e2 : hloadN H b o (Nat.mul ts.length 3) = some (tripVals ts) := h1
      rcases h3 with rfl | rfl <;> simp only [tripsAt, e1, e2, tripsOf_vals]
  have e2 : Nat.ble ts.length 100000000 = true := ble_t (by omega)
  refine ⟨_, _, CallS.sum (by decide) hs (by simp only [sNet, e, e2]; rfl), .inr ⟨H.nx, rfl, get_new, Nat.le_refl _, ?_⟩, keep_new⟩
  rw [nx_new]; omega
end Go.Am
end

section
namespace Go.Am
open Go Go.RowKit
theorem insR_length (c : Trp) : ∀ m : List Trp, (insR c m).length ≤ m.length + 1
  | [] => by simp [insR]
  | x :: l => by
    have := insR_length c l
    simp only [insR]
    cases ltT x c with
    | true => simp only [List.length_cons]; omega
    | false => cases (eqI x.1 c.1 && eqI x.2.1 c.2.1) <;> simp
theorem refT_take {ts : List Trp} : ∀ {i : Nat}, i ≤ ts.length → RisT (refT [] (ts.take i)) ∧ (refT [] (ts.take i)).length ≤ i
  | 0, _ => by simp [refT]
  | i + 1, h => by
    obtain ⟨h1, h2⟩ := refT_take (ts := ts) (i := i) (by omega)
    rw [List.take_succ_eq_append_getElem (by omega), refT_snoc]
    cases eqI ts[i].1 ts[i].2.1 with
    | true => exact ⟨h1, by simp only; omega⟩
    | false =>
      have := insR_length (normT ts[i]) (refT [] (ts.take i))
      exact ⟨insR_ris h1, by simp only; omega⟩
theorem refT_length (ts : List Trp) : (netT ts).length ≤ ts.length := by
  have := (refT_take (ts := ts) (i := ts.length) (Nat.le_refl _)).2
  rw [List.take_length, refT_netT] at this
  exact this
theorem full_reads {H : AHeap} {b : Pos} {ts : List Trp} {op ro : Bool} (hb : PT.get b H.t = some (.cells (tripVals ts) op ro)) {K : Nat} (hK : b.toNat < K) : TReads K H (.sl b 0 ts.length ts.length 0) ts := by
  refine .inr ⟨b, 0, ts.length, 0, rfl, ?_, hK, .inl rfl, Nat.le_refl _⟩
  rw [hloadN_at hb (by rw [tripVals_length]; omega), List.drop_zero, List.take_of_length_le (by rw [tripVals_length]; omega)]
theorem lent_reads {H : AHeap} {b : Pos} {ts : List Trp} {op ro : Bool} (hb : PT.get b H.t = some (.cells (tripVals (ts ++ [mark])) op ro)) {K : Nat} (hK : b.toNat < K) : TReads K H (.sl b 0 ts.length (ts.length + 1) 3) ts := by
  refine .inr ⟨b, 0, ts.length + 1, 3, rfl, ?_, hK, .inr rfl, by omega⟩
  rw [hloadN_at hb (by rw [tripVals_length, List.length_append, List.length_singleton]; omega), List.drop_zero, tripVals_take]
  simp
end Go.Am
end

section
namespace Go.Am
open Go Go.RowKit

/-! The plain law of Merge: what change.merge makes of the last words is what the reference makes of the changes, one behind the other. -/
def withR (u : Int) (b : Bool) : List Int → List Int
  | [] => (match b with | true => [u] | false => [])
  | x :: l => match ltI x u with
    | true => x :: withR u b l
    | false => (match b with | true => [u] | false => []) ++ (match eqI x u with | true => l | false => x :: l)
def toR (v : Int) (m : List Int) : List Int → List Int
  | [] => m
  | x :: l => match eqI x v with
    | true => toR v m l
    | false => toR v (withR x true m) l
def stepR (v : Int) (m : List Int) (t : Trp) : List Int :=
  match eqI t.1 t.2.1 with
  | true => m
  | false => match eqI t.1 v with
    | true => (match eqI t.2.1 v with
      | true => withR t.1 (!t.2.2) (withR t.2.1 (!t.2.2) m)
      | false => withR t.2.1 (!t.2.2) m)
    | false => (match eqI t.2.1 v with
      | true => withR t.1 (!t.2.2) m
      | false => m)
def refM (v : Int) (m : List Int) : List Trp → List Int
  | [] => m
  | t :: l => refM v (stepR v m t) l
theorem refM_snoc (v : Int) : ∀ (l : List Trp) (m : List Int) (t : Trp), refM v m (l ++ [t]) = stepR v (refM v m l) t
  | [], m, t => rfl
  | x :: l, m, t => refM_snoc v l _ t
theorem toR_snoc (v : Int) : ∀ (l : List Int) (m : List Int) (x : Int), toR v m (l ++ [x]) = (match eqI x v with | true => toR v m l | false => withR x true (toR v m l))
  | [], m, x => by
    simp only [List.nil_append, toR]
  | y :: l, m, x => by
    simp only [List.cons_append, toR]
    cases eqI y v with
    | true => exact toR_snoc v l m x
    | false => exact toR_snoc v l _ x
abbrev RisZ (l : List Int) : Prop := l.Pairwise (· < ·)
theorem withR_mem {u : Int} {b : Bool} {x : Int} : ∀ {l : List Int}, RisZ l → (x ∈ withR u b l ↔ (x = u ∧ b = true) ∨ (x ∈ l ∧ x ≠ u))
  | [], _ => by cases b <;> simp [withR]
  | y :: l, h => by
    obtain ⟨h1, h2⟩ := List.pairwise_cons.1 h
    have ih := withR_mem (u := u) (b := b) (x := x) h2
    simp only [withR]
    rw [ltI_eq, eqI_dec]
    by_cases hl : y < u
    · simp only [hl, decide_true, List.mem_cons, ih]
      constructor
      · rintro (rfl | h | ⟨h, h'⟩)
        · exact .inr ⟨.inl rfl, by omega⟩
        · exact .inl h
        · exact .inr ⟨.inr h, h'⟩
      · rintro (h | ⟨rfl | h, h'⟩)
        · exact .inr (.inl h)
        · exact .inl rfl
        · exact .inr (.inr ⟨h, h'⟩)
    · simp only [hl, decide_false]
      by_cases he : y = u
      · subst he
        simp only [decide_true, List.mem_append, List.mem_cons]
        have hx : x ∈ l → x ≠ y := fun hx e => by have := h1 x hx; omega
        cases b <;> simp <;> constructor
        · exact fun h => ⟨.inr h, hx h⟩
        · rintro ⟨h | h, h'⟩
          · exact absurd h h'
          · exact h
        · rintro (h | h)
          · exact .inl h
          · exact .inr ⟨.inr h, hx h⟩
        · rintro (h | ⟨h | h, h'⟩)
          · exact .inl h
          · exact absurd h h'
          · exact .inr h
      · simp only [he, decide_false, List.mem_append, List.mem_cons]
        have hx : (x = y ∨ x ∈ l) → x ≠ u := by
          rintro (rfl | hx)
          · exact he
          · have := h1 x hx; omega
        cases b <;> simp
        · exact fun h => hx h
        constructor
        · rintro (h | h)
          · exact .inl h
          · exact .inr ⟨h, hx h⟩
        · rintro (h | ⟨h, _⟩)
          · exact .inl h
          · exact .inr h
theorem withR_ris {u : Int} {b : Bool} : ∀ {l : List Int}, RisZ l → RisZ (withR u b l)
  | [], _ => by cases b <;> simp [withR]
  | y :: l, h => by
    obtain ⟨h1, h2⟩ := List.pairwise_cons.1 h
    have hm := fun x => withR_mem (u := u) (b := b) (x := x) h2
    simp only [withR]
    rw [ltI_eq, eqI_dec]
    by_cases hl : y < u
    · simp only [hl, decide_true]
      refine List.pairwise_cons.2 ⟨fun x hx => ?_, withR_ris h2⟩
      rcases (hm x).1 hx with ⟨rfl, _⟩ | ⟨hx, _⟩
      · exact hl
      · exact h1 x hx
    · simp only [hl, decide_false]
      by_cases he : y = u
      · subst he
        simp only [decide_true]
        cases b
        · exact h2
        · exact h
      · simp only [he, decide_false]
        cases b
        · exact h
        · refine List.pairwise_cons.2 ⟨fun x hx => ?_, h⟩
          rcases List.mem_cons.1 hx with rfl | hx
          · omega
          · have := h1 x hx; omega
theorem toR_ok (v : Int) : ∀ (l m : List Int), RisZ m → RisZ (toR v m l) ∧ ∀ x, x ∈ toR v m l ↔ x ∈ m ∨ (x ∈ l ∧ x ≠ v)
  | [], m, h => ⟨h, fun x => by simp [toR]⟩
  | y :: l, m, h => by
    simp only [toR]
    rw [eqI_dec]
    by_cases e : y = v
    · simp only [e, decide_true]
      obtain ⟨h1, h2⟩ := toR_ok v l m h
      refine ⟨h1, fun x => ?_⟩
      rw [h2]
      simp only [List.mem_cons]
      constructor
      · rintro (h | ⟨h, h'⟩)
        · exact .inl h
        · exact .inr ⟨.inr h, h'⟩
      · rintro (h | ⟨h | h, h'⟩)
        · exact .inl h
        · exact absurd h h'
        · exact .inr ⟨h, h'⟩
    · simp only [e, decide_false]
      obtain ⟨h1, h2⟩ := toR_ok v l (withR y true m) (withR_ris h)
      refine ⟨h1, fun x => ?_⟩
      rw [h2, withR_mem h]
      simp only [List.mem_cons, and_true]
      constructor
      · rintro ((h | ⟨h, _⟩) | ⟨h, h'⟩)
        · exact .inr ⟨.inl h, by rw [h]; exact e⟩
        · exact .inl h
        · exact .inr ⟨.inr h, h'⟩
      · rintro (h | ⟨h | h, h'⟩)
        · by_cases ex : x = y
          · exact .inl (.inl ex)
          · exact .inl (.inr ⟨h, ex⟩)
        · exact .inl (.inl h)
        · exact .inr ⟨h, h'⟩

/-! The words on the edges of a vertex. -/
def adjT (v : Int) : List Trp → List Mrk
  | [] => []
  | t :: l => match eqI t.1 v with
    | true => (t.2.1, t.2.2) :: adjT v l
    | false => match eqI t.2.1 v with
      | true => (t.1, t.2.2) :: adjT v l
      | false => adjT v l
def normK (v x : Int) : Int × Int := if v < x then (v, x) else (x, v)
theorem adjT_mem {v x : Int} {g : Bool} : ∀ {l : List Trp}, (∀ t ∈ l, t.1 < t.2.1) → ((x, g) ∈ adjT v l ↔ x ≠ v ∧ ∃ t ∈ l, keyT t = normK v x ∧ t.2.2 = g)
  | [], _ => by simp [adjT]
  | t :: l, h => by
    have ih := adjT_mem (v := v) (x := x) (g := g) (l := l) fun y hy => h y (by simp [hy])
    have ht := h t (by simp)
    simp only [adjT]
    rw [eqI_dec, eqI_dec]
    obtain ⟨a, b, f⟩ := t
    simp only at ht ⊢
    have hk : x ≠ v → (keyT (a, b, f) = normK v x ↔ (a = v ∧ b = x) ∨ (b = v ∧ a = x)) := by
      intro hx
      unfold keyT normK
      by_cases hvx : v < x
      · simp only [hvx, if_true, Prod.mk.injEq]; omega
      · simp only [hvx, if_false, Prod.mk.injEq]; omega
    have key : (x, g) ∈ adjT v ((a, b, f) :: l) ↔ (x ≠ v ∧ ((a = v ∧ b = x) ∨ (b = v ∧ a = x)) ∧ f = g) ∨ (x, g) ∈ adjT v l := by
      simp only [adjT]
      rw [eqI_dec, eqI_dec]
      by_cases h1 : a = v
      · simp only [h1, decide_true, List.mem_cons, Prod.mk.injEq]
        constructor
        · rintro (⟨h2, h3⟩ | h)
          · exact .inl ⟨by omega, .inl ⟨trivial, h2.symm⟩, h3.symm⟩
          · exact .inr h
        · rintro (⟨h2, h3 | h3, h4⟩ | h)
          · exact .inl ⟨h3.2.symm, h4.symm⟩
          · omega
          · exact .inr h
      · simp only [h1, decide_false]
        by_cases h2 : b = v
        · simp only [h2, decide_true, List.mem_cons, Prod.mk.injEq]
          constructor
          · rintro (⟨h3, h4⟩ | h)
            · exact .inl ⟨by omega, .inr ⟨trivial, h3.symm⟩, h4.symm⟩
            · exact .inr h
          · rintro (⟨h3, h4 | h4, h5⟩ | h)
            · exact absurd h4.1 (by simp)
            · exact .inl ⟨h4.2.symm, h5.symm⟩
            · exact .inr h
        · simp only [h2, decide_false]
          constructor
          · exact .inr
          · rintro (⟨h3, h4 | h4, h5⟩ | h)
            · exact absurd h4.1 (by simp)
            · exact absurd h4.1 (by simp)
            · exact h
    simp only [adjT] at key
    rw [eqI_dec, eqI_dec] at key
    rw [key, ih]
    simp only [List.mem_cons, exists_eq_or_imp]
    constructor
    · rintro (⟨h1, h2, h3⟩ | ⟨h1, h2⟩)
      · exact ⟨h1, .inl ⟨(hk h1).2 h2, h3⟩⟩
      · exact ⟨h1, .inr h2⟩
    · rintro ⟨h1, ⟨h2, h3⟩ | h2⟩
      · exact .inl ⟨h1, (hk h1).1 h2, h3⟩
      · exact .inr ⟨h1, h2⟩
theorem normT_lt {t : Trp} (h : eqI t.1 t.2.1 = false) : (normT t).1 < (normT t).2.1 := by
  rw [eqI_eq] at h
  have h : t.1 ≠ t.2.1 := by simpa using h
  show minI t.1 t.2.1 < maxI t.1 t.2.1
  unfold minI maxI
  rw [ltI_eq, ltI_eq]
  by_cases h1 : t.2.1 < t.1
  · have h2 : ¬ t.1 < t.2.1 := by omega
    simp only [h1, h2, decide_true, decide_false]
  · have h2 : t.1 < t.2.1 := by omega
    simp only [h1, h2, decide_true, decide_false]
theorem normT_key {t : Trp} (h : eqI t.1 t.2.1 = false) {v x : Int} (hx : x ≠ v) : keyT (normT t) = normK v x ↔ (t.1 = v ∧ t.2.1 = x) ∨ (t.2.1 = v ∧ t.1 = x) := by
  rw [eqI_eq] at h
  have h : t.1 ≠ t.2.1 := by simpa using h
  have e : keyT (normT t) = if t.2.1 < t.1 then (t.2.1, t.1) else (t.1, t.2.1) := by
    show (minI t.1 t.2.1, maxI t.1 t.2.1) = _
    unfold minI maxI
    rw [ltI_eq, ltI_eq]
    by_cases h1 : t.2.1 < t.1
    · have h2 : ¬ t.1 < t.2.1 := by omega
      simp only [h1, h2, decide_true, decide_false, if_true]
    · have h2 : t.1 < t.2.1 := by omega
      simp only [h1, h2, decide_true, decide_false, if_false]
  rw [e]
  unfold normK
  by_cases h1 : t.2.1 < t.1 <;> by_cases h2 : v < x <;> simp only [h1, h2, if_true, if_false, Prod.mk.injEq] <;> omega
theorem net_all : ∀ {i : Nat} {ts : List Trp}, i ≤ ts.length → ∀ t ∈ refT [] (ts.take i), t.1 < t.2.1
  | 0, _, _, t, ht => by simp [refT] at ht
  | i + 1, ts, h, t, ht => by
    rw [List.take_succ_eq_append_getElem (by omega), refT_snoc] at ht
    have hr := (refT_take (ts := ts) (i := i) (by omega)).1
    cases he : eqI ts[i].1 ts[i].2.1 with
    | true => rw [he] at ht; exact net_all (by omega) t ht
    | false =>
      rw [he] at ht
      rcases (insR_mem hr).1 ht with rfl | ⟨ht, _⟩
      · exact normT_lt he
      · exact net_all (by omega) t ht
theorem merge_same (v : Int) (to : List Int) (ts : List Trp) : ∀ {i : Nat}, i ≤ ts.length → RisZ (refM v (toR v [] to) (ts.take i)) ∧ ∀ x, x ∈ refM v (toR v [] to) (ts.take i) ↔ x ≠ v ∧ ((∃ t ∈ refT [] (ts.take i), keyT t = normK v x ∧ t.2.2 = false) ∨ ((¬ ∃ t ∈ refT [] (ts.take i), keyT t = normK v x) ∧ x ∈ to))
  | 0, _ => by
    obtain ⟨h1, h2⟩ := toR_ok v to [] List.Pairwise.nil
    refine ⟨h1, fun x => ?_⟩
    simp only [List.take_zero, refM, refT]
    rw [h2]
    simp
    exact ⟨fun h => ⟨h.2, h.1⟩, fun h => ⟨h.2, h.1⟩⟩
  | i + 1, h => by
    obtain ⟨h1, h2⟩ := merge_same v to ts (i := i) (by omega)
    have hr := (refT_take (ts := ts) (i := i) (by omega)).1
    rw [List.take_succ_eq_append_getElem (by omega), refM_snoc, refT_snoc]
    generalize refM v (toR v [] to) (ts.take i) = m at h1 h2
    generalize ts[i] = t
    generalize refT [] (ts.take i) = n at h2 hr
    unfold stepR
    cases he : eqI t.1 t.2.1 with
    | true => exact ⟨h1, h2⟩
    | false =>
      have hne : t.1 ≠ t.2.1 := by rw [eqI_eq] at he; simpa using he
      have hw : ∀ (K : Int × Int) (p : Trp → Prop), (∃ y ∈ insR (normT t) n, keyT y = K ∧ p y) ↔ (keyT (normT t) = K ∧ p (normT t)) ∨ (keyT (normT t) ≠ K ∧ ∃ y ∈ n, keyT y = K ∧ p y) := by
        intro K p
        constructor
        · rintro ⟨y, hy, e, hp⟩
          rcases (insR_mem hr).1 hy with rfl | ⟨hy, hk⟩
          · exact .inl ⟨e, hp⟩
          · exact .inr ⟨by rw [← e]; exact fun e' => hk e'.symm, y, hy, e, hp⟩
        · rintro (⟨e, hp⟩ | ⟨hk, y, hy, e, hp⟩)
          · exact ⟨_, (insR_mem hr).2 (.inl rfl), e, hp⟩
          · exact ⟨y, (insR_mem hr).2 (.inr ⟨hy, by rw [e]; exact fun e' => hk e'.symm⟩), e, hp⟩
      have hw2 : ∀ K : Int × Int, (∃ y ∈ insR (normT t) n, keyT y = K) ↔ keyT (normT t) = K ∨ (keyT (normT t) ≠ K ∧ ∃ y ∈ n, keyT y = K) := by
        intro K
        have := hw K (fun _ => True)
        simpa using this
      have hflag : (normT t).2.2 = t.2.2 := rfl
      -- one neighbour b of v
      have one : ∀ b, b ≠ v → (∀ x, x ≠ v → (keyT (normT t) = normK v x ↔ x = b)) → RisZ (withR b (!t.2.2) m) ∧ ∀ x, x ∈ withR b (!t.2.2) m ↔ x ≠ v ∧ ((∃ y ∈ insR (normT t) n, keyT y = normK v x ∧ y.2.2 = false) ∨ ((¬ ∃ y ∈ insR (normT t) n, keyT y = normK v x) ∧ x ∈ to)) := by
        intro b hb hk
        refine ⟨withR_ris h1, fun x => ?_⟩
        rw [withR_mem h1, h2, hw (normK v x) (fun y => y.2.2 = false), hw2, hflag]
        by_cases hxv : x = v
        · subst hxv
          simp [fun e : x = b => hb e.symm]
          try exact fun e => absurd e.symm hb
        · simp only [ne_eq]
          rw [hk x hxv]
          by_cases hxb : x = b
          · subst hxb
            cases t.2.2 <;> simp [hxv]
          · simp [hxb, hxv]
      rw [eqI_dec, eqI_dec]
      by_cases ha : t.1 = v
      · have hb : t.2.1 ≠ v := by omega
        simp only [ha, hb, decide_true, decide_false]
        exact one t.2.1 hb fun x hx => by rw [normT_key he hx]; omega
      · by_cases hb : t.2.1 = v
        · simp only [ha, hb, decide_true, decide_false]
          exact one t.1 ha fun x hx => by rw [normT_key he hx]; omega
        · simp only [ha, hb, decide_false]
          refine ⟨h1, fun x => ?_⟩
          rw [h2, hw (normK v x) (fun y => y.2.2 = false), hw2]
          by_cases hxv : x = v
          · simp [hxv]
          · have : keyT (normT t) ≠ normK v x := by rw [Ne, normT_key he hxv]; omega
            simp [hxv, this]
theorem compactFrom_ris : ∀ (l : List Int) (a : Int), (a :: l).Pairwise (· ≤ ·) → RisZ (compactFrom a l) ∧ ∀ x, x ∈ compactFrom a l ↔ x = a ∨ x ∈ l
  | [], a, _ => by simp [compactFrom]
  | b :: l, a, h => by
    obtain ⟨h1, h2⟩ := List.pairwise_cons.1 h
    obtain ⟨h3, h4⟩ := List.pairwise_cons.1 h2
    simp only [compactFrom]
    rw [eqI_dec]
    by_cases e : b = a
    · subst e
      simp only [decide_true]
      obtain ⟨g1, g2⟩ := compactFrom_ris l b h2
      refine ⟨g1, fun x => ?_⟩
      rw [g2]
      simp only [List.mem_cons]
      constructor
      · rintro (h | h)
        · exact .inl h
        · exact .inr (.inr h)
      · rintro (h | h | h)
        · exact .inl h
        · exact .inl h
        · exact .inr h
    · simp only [e, decide_false]
      obtain ⟨g1, g2⟩ := compactFrom_ris l b h2
      refine ⟨List.pairwise_cons.2 ⟨fun x hx => ?_, g1⟩, fun x => ?_⟩
      · have hab := h1 b (by simp)
        rcases (g2 x).1 hx with rfl | hx
        · omega
        · have := h3 x hx; omega
      · simp only [List.mem_cons, g2]
theorem compactZ_ok {l : List Int} (h : l.Pairwise (· ≤ ·)) : RisZ (compactZ l) ∧ ∀ x, x ∈ compactZ l ↔ x ∈ l := by
  cases l with
  | nil => simp [compactZ]
  | cons a l =>
    obtain ⟨h1, h2⟩ := compactFrom_ris l a h
    exact ⟨h1, fun x => by simp only [compactZ, h2, List.mem_cons]⟩
theorem oldM_mem {v : Int} {ms : List Mrk} {x : Int} : ∀ {l : List Int}, x ∈ oldM v ms l ↔ x ∈ l ∧ x ∉ ms.map (·.1) ∧ x ≠ v
  | [] => by simp [oldM]
  | y :: l => by
    have ih := oldM_mem (v := v) (ms := ms) (x := x) (l := l)
    simp only [oldM]
    rw [eqI_dec]
    cases hh : hasM y ms with
    | true =>
      have := (hasM_iff y ms).1 hh
      simp only [ih, List.mem_cons]
      constructor
      · rintro ⟨h, h'⟩; exact ⟨.inr h, h'⟩
      · rintro ⟨rfl | h, h'⟩
        · exact absurd this h'.1
        · exact ⟨h, h'⟩
    | false =>
      have hn : y ∉ ms.map (·.1) := fun h => by rw [(hasM_iff y ms).2 h] at hh; cases hh
      by_cases e : y = v
      · simp only [e, decide_true, ih, List.mem_cons]
        constructor
        · rintro ⟨h, h'⟩; exact ⟨.inr h, h'⟩
        · rintro ⟨h | h, h'⟩
          · exact absurd h h'.2
          · exact ⟨h, h'⟩
      · simp only [e, decide_false, List.mem_cons, ih]
        constructor
        · rintro (rfl | ⟨h, h'⟩)
          · exact ⟨.inl rfl, hn, e⟩
          · exact ⟨.inr h, h'⟩
        · rintro ⟨rfl | h, h'⟩
          · exact .inl rfl
          · exact .inr ⟨h, h'⟩
theorem newM_mem {x : Int} : ∀ {l : List Mrk}, x ∈ newM l ↔ (x, false) ∈ l
  | [] => by simp [newM]
  | (u, g) :: l => by
    have ih := newM_mem (x := x) (l := l)
    cases g <;> simp [newM, ih]
/-- **The plain law of Merge.** -/
theorem mergeZ_ref (v : Int) (to : List Int) (ts : List Trp) : mergeZ v to (adjT v (netT ts)) = refM v (toR v [] to) ts := by
  obtain ⟨h1, h2⟩ := merge_same v to ts (i := ts.length) (Nat.le_refl _)
  have hlt := net_all (ts := ts) (i := ts.length) (Nat.le_refl _)
  rw [List.take_length] at h1 h2 hlt
  rw [← refT_netT]
  obtain ⟨g1, g2⟩ := compactZ_ok (sortZ_sorted (oldM v (adjT v (refT [] ts)) to ++ newM (adjT v (refT [] ts))))
  have hmem : ∀ x, x ∈ mergeZ v to (adjT v (refT [] ts)) ↔ x ∈ refM v (toR v [] to) ts := by
    intro x
    unfold mergeZ
    rw [g2, (sortZ_perm _).mem_iff, List.mem_append, oldM_mem, newM_mem, adjT_mem hlt, h2]
    have hk : x ∉ (adjT v (refT [] ts)).map (·.1) ↔ ¬ (x ≠ v ∧ ∃ t ∈ refT [] ts, keyT t = normK v x) := by
      refine not_congr ?_
      simp only [List.mem_map]
      constructor
      · rintro ⟨⟨y, g⟩, hy, rfl⟩
        obtain ⟨e1, t, ht, e2, _⟩ := (adjT_mem hlt).1 hy
        exact ⟨e1, t, ht, e2⟩
      · rintro ⟨e1, t, ht, e2⟩
        exact ⟨(x, t.2.2), (adjT_mem hlt).2 ⟨e1, t, ht, e2, rfl⟩, rfl⟩
    rw [hk]
    by_cases hxv : x = v
    · simp [hxv]
    · simp only [ne_eq, hxv, not_false_eq_true, true_and, and_true]
      constructor
      · rintro (⟨h, h'⟩ | h)
        · exact .inr ⟨h', h⟩
        · exact .inl h
      · rintro (h | ⟨h, h'⟩)
        · exact .inr h
        · exact .inl ⟨h', h⟩
  have nd : ∀ {l : List Int}, RisZ l → l.Nodup := fun h => h.imp fun hlt e => by omega
  refine List.Perm.eq_of_pairwise (le := fun a b => a < b) (fun x y _ _ e1 e2 => by omega) g1 h1 ((List.perm_ext_iff_of_nodup (nd g1) (nd h1)).2 hmem)
end Go.Am
end
