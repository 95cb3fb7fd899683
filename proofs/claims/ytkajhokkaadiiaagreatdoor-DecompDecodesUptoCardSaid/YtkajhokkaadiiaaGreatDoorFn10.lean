/- Part of the proof: AmD1, AmD2. -/
import Derived.Test.YtkajhokkaadiiaaGreatDoorFn8
import Derived.Test.YtkajhokkaadiiaaGreatDoorCode
set_option linter.unusedSimpArgs false
set_option linter.unusedVariables false
section
namespace Go.Am
open Go

structure CodeOk4 (E : Env) : Prop extends CodeOk2 E where
  f4 : PT.get (Pos.ofNat 4) E.fns = some g4
  f16 : PT.get (Pos.ofNat 16) E.fns = some g16
  f17 : PT.get (Pos.ofNat 17) E.fns = some g17
  f18 : PT.get (Pos.ofNat 18) E.fns = some g18
  f19 : PT.get (Pos.ofNat 19) E.fns = some g19
  f21 : PT.get (Pos.ofNat 21) E.fns = some g21
  f23 : PT.get (Pos.ofNat 23) E.fns = some g23
  f43 : PT.get (Pos.ofNat 43) E.fns = some g43

section
variable {E : Env} (C : CodeOk4 E)
include C

/-- SameByteLists, of unlike lists too. -/
theorem eq_lists' {n : Nat} {H : AHeap} {x y : AVal} {uss vss : List (List Nat)} (hx : Lists n H x uss) (hy : Lists n H y vss) (hu : ∀ us ∈ uss, ∀ u ∈ us, u < 256) (hv : ∀ us ∈ vss, ∀ u ∈ us, u < 256) (hl : uss.length ≤ 4611686018427387904) : CallS E 14 [x, y] H (.bool (allEq uss vss)) H := by
  suffices h : ∃ v H', CallS E 14 [x, y] H v H' ∧ v = .bool (allEq uss vss) ∧ H' = H by obtain ⟨v, H', h, rfl, rfl⟩ := h; exact h
  obtain ⟨lx, ax⟩ := hx.at
  obtain ⟨ly, ay⟩ := hy.at
  refine CallS.by (R := fun v H' => v = .bool (allEq uss vss) ∧ H' = H) (t0 := tput (tput .l (some (Pos.ofNat 0)) x) (some (Pos.ofNat 1)) y) (C.s _ rfl) rfl C.f14 rfl ?_
  refine W.seq (W.region ?_)
  simp (maxDischargeDepth := 9) only [auW, auC, auT, lget, BEq.rfl, beq_self_eq_true, decide_true, decide_false, reduceCtorEq, Nat.reduceLT, Nat.reduceEqDiff, ↓reduceIte, g14r0]
  refine W.seq (W.seq (W.region ?_))
  simp (maxDischargeDepth := 9) only [auW, auC, auT, lget, BEq.rfl, beq_self_eq_true, decide_true, decide_false, reduceCtorEq, Nat.reduceLT, Nat.reduceEqDiff, ↓reduceIte, g14r1, lx, ly]
  refine W.cond_if (p := ¬ uss.length = vss.length) (by simp [AOpnd.ev, tget_puts]) (fun hne => W.seq (W.region ?_)) (fun heq => W.skip ?_)
  · simp (maxDischargeDepth := 9) only [auW, auC, auT, lget, BEq.rfl, beq_self_eq_true, decide_true, decide_false, reduceCtorEq, Nat.reduceLT, Nat.reduceEqDiff, ↓reduceIte, g14r2]
    refine W.ret ⟨.inr rfl, rfl, .bool (allEq uss vss), ?_, rfl, rfl⟩
    rw [allEq_len hne]
    simp only [resultA, g14, tget_puts, Nat.reduceLT, Nat.reduceEqDiff, ↓reduceIte]
  have heq : uss.length = vss.length := by simpa using heq
  simp only [andThen]
  refine W.seq (W.seq (W.region ?_))
  simp (maxDischargeDepth := 9) only [auW, auC, auT, lget, BEq.rfl, beq_self_eq_true, decide_true, decide_false, reduceCtorEq, Nat.reduceLT, Nat.reduceEqDiff, ↓reduceIte, g14r3]
  refine W.block ?_
  refine W.mono (W.loop_inv (Q := fun e a H' => H' = H ∧ a.ds = [] ∧ ((e = .exit 0 ∧ allEq uss vss = true) ∨ (e = .ret ∧ tget a.t (Pos.ofNat 4) = .bool false ∧ allEq uss vss = false))) (fun n t H1 => ∃ i, H1 = H ∧ i + n = uss.length ∧ tget t (Pos.ofNat 0) = x ∧ tget t (Pos.ofNat 1) = y ∧ tget t (Pos.ofNat 5) = .int .i64 (.ofNat i) ∧ allEq (uss.drop i) (vss.drop i) = allEq uss vss) ?_ uss.length _ H ⟨0, rfl, by omega, ?_, ?_, ?_, rfl⟩) ?_
  rotate_left
  all_goals try (simp only [tget_puts, Nat.reduceLT, Nat.reduceEqDiff, ↓reduceIte]; done)
  · rintro e ⟨t, ds⟩ H' ⟨rfl, hd, (⟨rfl, ha⟩ | ⟨rfl, h6, ha⟩)⟩
    · simp only [inBlock, andThen]
      have hd : ds = [] := hd
      subst hd
      refine W.seq (W.region ?_)
      simp (maxDischargeDepth := 9) only [auW, auC, auT, lget, BEq.rfl, beq_self_eq_true, decide_true, decide_false, reduceCtorEq, Nat.reduceLT, Nat.reduceEqDiff, ↓reduceIte, g14r10]
      refine W.ret ⟨.inr rfl, rfl, .bool (allEq uss vss), ?_, rfl, rfl⟩
      rw [ha]
      simp only [resultA, g14, tget_puts, Nat.reduceLT, Nat.reduceEqDiff, ↓reduceIte]
    · simp only [inBlock, andThen]
      have h6 : tget t (Pos.ofNat 4) = .bool false := h6
      refine ⟨.inr trivial, hd, .bool (allEq uss vss), ?_, rfl, trivial⟩
      rw [ha]
      simp only [resultA, g14, h6]
  rintro n t H1 ⟨i, rfl, hi, h0, h1, h5, hall⟩
  refine W.seq (W.seq (W.region ?_))
  simp (maxDischargeDepth := 9) only [auW, auC, auT, lget, BEq.rfl, beq_self_eq_true, decide_true, decide_false, reduceCtorEq, Nat.reduceLT, Nat.reduceEqDiff, ↓reduceIte, g14r4, h5, h0, lx]
  refine W.cond_if (p := i < uss.length) (by simp [AOpnd.ev, tget_puts]) (fun hlt => W.skip ?_) (fun hge => W.exit ?_)
  rotate_left
  · refine ⟨by trivial, by trivial, .inl ⟨by trivial, ?_⟩⟩
    rw [← hall, List.drop_eq_nil_of_le (by omega), List.drop_eq_nil_of_le (by omega)]
    rfl
  obtain ⟨b, o, vi, e1, e2, e3⟩ := ax i hlt
  obtain ⟨b', o', vi', e1', e2', e3'⟩ := ay i (by omega)
  have hc := eq_bytes' C.toCodeOk2 e3 e3' (hu _ (List.getElem_mem _)) (hv _ (List.getElem_mem _))
  simp only [andThen]
  refine W.seq (W.block (W.seq (W.draw ?_)))
  simp (maxDischargeDepth := 9) only [auD, auC, auT, lget, BEq.rfl, beq_self_eq_true, decide_true, decide_false, reduceCtorEq, Nat.reduceLT, Nat.reduceEqDiff, ↓reduceIte, g14d5, h0, h1, h5, e1, e2, e1', e2']
  refine wd_callE hc (by simp only [auT, Nat.reduceLT, Nat.reduceEqDiff, ↓reduceIte]) (by repeat (first | exact again_nil' | refine again_skip rfl ?_)) ?_
  simp (maxDischargeDepth := 9) only [auD, auC, auT, lget, BEq.rfl, beq_self_eq_true, decide_true, decide_false, reduceCtorEq, Nat.reduceLT, Nat.reduceEqDiff, ↓reduceIte]
  refine W.seq (W.region ?_)
  simp (maxDischargeDepth := 9) only [auW, auC, auT, lget, BEq.rfl, beq_self_eq_true, decide_true, decide_false, reduceCtorEq, Nat.reduceLT, Nat.reduceEqDiff, ↓reduceIte, g14r6]
  cases hse : strEq uss[i] vss[i] with
  | false =>
    refine W.cond_true (by simp [AOpnd.ev, tget_puts]) (W.seq (W.region ?_))
    simp (maxDischargeDepth := 9) only [auW, auC, auT, lget, BEq.rfl, beq_self_eq_true, decide_true, decide_false, reduceCtorEq, Nat.reduceLT, Nat.reduceEqDiff, ↓reduceIte, g14r7]
    refine W.ret ⟨by trivial, by trivial, .inr ⟨by trivial, ?_, ?_⟩⟩
    · simp only [tget_puts, Nat.reduceLT, Nat.reduceEqDiff, ↓reduceIte]
    · rw [← hall, allEq_drop hlt (by omega), hse]; rfl
  | true =>
    refine W.cond_false (by simp [AOpnd.ev, tget_puts]) (W.skip ?_)
    simp only [andThen, inBlock]
    refine W.region ?_
    simp (maxDischargeDepth := 9) only [auW, auC, auT, lget, BEq.rfl, beq_self_eq_true, decide_true, decide_false, reduceCtorEq, Nat.reduceLT, Nat.reduceEqDiff, ↓reduceIte, g14r8, h5, b_add (show i + 1 ≤ 9223372036854775807 by omega)]
    refine ⟨by trivial, n - 1, by omega, i + 1, by trivial, by omega, ?_, ?_, ?_, ?_⟩
    · simp only [tget_puts, Nat.reduceLT, Nat.reduceEqDiff, ↓reduceIte, h0]
    · simp only [tget_puts, Nat.reduceLT, Nat.reduceEqDiff, ↓reduceIte, h1]
    · simp only [tget_puts, Nat.reduceLT, Nat.reduceEqDiff, ↓reduceIte]
    · rw [← hall, allEq_drop hlt (by omega), hse]; rfl

theorem ref_number {n : Nat} {H : AHeap} {x : AVal} {us : List Nat} (hx : Reads n H x (cellsOfBytes us)) (hu : ∀ u ∈ us, u < 256) {k : Nat} (hi : k + 4 ≤ us.length) (hl : us.length ≤ 1073741824) :
    CallS E 43 [x, .int .i64 (.ofNat k)] H (.int .i64 (.ofNat (num4 us[k] us[k + 1] us[k + 2] us[k + 3]))) H := by
  suffices h : ∃ v H', CallS E 43 [x, .int .i64 (.ofNat k)] H v H' ∧ v = .int .i64 (.ofNat (num4 us[k] us[k + 1] us[k + 2] us[k + 3])) ∧ H' = H by obtain ⟨v, H', h, rfl, rfl⟩ := h; exact h
  have at' : ∀ j (hj : j < 4), ∃ b' o', fIdxS 1 x (.int .i64 (.ofNat (k + j))) = some (.ptr b' o') ∧ hload H b' o' = some (.int .u8 (.ofNat (us[k + j]'(by omega)))) := by
    intro j hj
    obtain ⟨b', o', e1, e2⟩ := hx.fIdx (i := k + j) (by rw [cells_length]; omega)
    exact ⟨b', o', e1, by rw [e2, bcells_at _ _ (by omega)]⟩
  obtain ⟨b0, o0, i0, l0⟩ := at' 0 (by omega)
  obtain ⟨b1, o1, i1, l1⟩ := at' 1 (by omega)
  obtain ⟨b2, o2, i2, l2⟩ := at' 2 (by omega)
  obtain ⟨b3, o3, i3, l3⟩ := at' 3 (by omega)
  have u0 := hu _ (List.getElem_mem (h := (show k < us.length by omega)))
  have u1 := hu _ (List.getElem_mem (h := (show k + 1 < us.length by omega)))
  have u2 := hu _ (List.getElem_mem (h := (show k + 2 < us.length by omega)))
  have u3 := hu _ (List.getElem_mem (h := (show k + 3 < us.length by omega)))
  simp only [Nat.add_zero] at l0 i0
  generalize us[k] = c0 at *
  generalize us[k + 1] = c1 at *
  generalize us[k + 2] = c2 at *
  generalize us[k + 3] = c3 at *
  have w0 : wrapI .i64 (.ofNat c0) = .ofNat c0 := wrap_nat (by omega)
  have w1 : wrapI .i64 (.ofNat c1) = .ofNat c1 := wrap_nat (by omega)
  have w2 : wrapI .i64 (.ofNat c2) = .ofNat c2 := wrap_nat (by omega)
  have w3 : wrapI .i64 (.ofNat c3) = .ofNat c3 := wrap_nat (by omega)
  have s0 : binOpA .shl (.int .i64 (.ofNat c0)) (.int .u64 (.ofNat 24)) = some (.int .i64 (.ofNat (c0 * 16777216))) := shl_ok (a := c0) (k := 24) u0 (by omega)
  have s1 : binOpA .shl (.int .i64 (.ofNat c1)) (.int .u64 (.ofNat 16)) = some (.int .i64 (.ofNat (c1 * 65536))) := shl_ok (a := c1) (k := 16) u1 (by omega)
  have s2 : binOpA .shl (.int .i64 (.ofNat c2)) (.int .u64 (.ofNat 8)) = some (.int .i64 (.ofNat (c2 * 256))) := shl_ok (a := c2) (k := 8) u2 (by omega)
  have p1 : c0 * 16777216 ||| c1 * 65536 = c0 * 16777216 + c1 * 65536 := or_sum (a := c0) (b := c1 * 65536) (k := 24) (by show _ < 16777216; omega)
  have p2 : c0 * 16777216 + c1 * 65536 ||| c2 * 256 = c0 * 16777216 + c1 * 65536 + c2 * 256 := by
    have := or_sum (a := c0 * 256 + c1) (b := c2 * 256) (k := 16) (by show _ < 65536; omega)
    rw [show (c0 * 256 + c1) * 2 ^ 16 = c0 * 16777216 + c1 * 65536 by show (c0 * 256 + c1) * 65536 = _; omega] at this
    exact this
  have p3 : c0 * 16777216 + c1 * 65536 + c2 * 256 ||| c3 = num4 c0 c1 c2 c3 := by
    have := or_sum (a := c0 * 65536 + c1 * 256 + c2) (b := c3) (k := 8) (by show _ < 256; omega)
    rw [show (c0 * 65536 + c1 * 256 + c2) * 2 ^ 8 = c0 * 16777216 + c1 * 65536 + c2 * 256 by show (c0 * 65536 + c1 * 256 + c2) * 256 = _; omega] at this
    exact this
  have r1 : binOpA .or (.int .i64 (.ofNat (c0 * 16777216))) (.int .i64 (.ofNat (c1 * 65536))) = some (.int .i64 (.ofNat (c0 * 16777216 + c1 * 65536))) := or_ok' p1 (by omega)
  have r2 : binOpA .or (.int .i64 (.ofNat (c0 * 16777216 + c1 * 65536))) (.int .i64 (.ofNat (c2 * 256))) = some (.int .i64 (.ofNat (c0 * 16777216 + c1 * 65536 + c2 * 256))) := or_ok' p2 (by omega)
  have r3 : binOpA .or (.int .i64 (.ofNat (c0 * 16777216 + c1 * 65536 + c2 * 256))) (.int .i64 (.ofNat c3)) = some (.int .i64 (.ofNat (num4 c0 c1 c2 c3))) := or_ok' p3 (by unfold num4; omega)
  have a1 := b_add (show k + 1 ≤ 9223372036854775807 by omega)
  have a2 := b_add (show k + 2 ≤ 9223372036854775807 by omega)
  have a3 := b_add (show k + 3 ≤ 9223372036854775807 by omega)
  refine CallS.by (R := fun v H' => v = .int .i64 (.ofNat (num4 c0 c1 c2 c3)) ∧ H' = H) (t0 := tput (tput .l (some (Pos.ofNat 0)) x) (some (Pos.ofNat 1)) (.int .i64 (.ofNat k))) (C.s _ rfl) rfl C.f43 rfl ?_
  refine W.seq (W.region ?_)
  simp (maxDischargeDepth := 9) only [auW, auC, auT, lget, BEq.rfl, beq_self_eq_true, decide_true, decide_false, reduceCtorEq, Nat.reduceLT, Nat.reduceEqDiff, ↓reduceIte, g43r0]
  refine W.seq (W.draw ?_)
  simp (maxDischargeDepth := 9) only [auD, auC, auT, lget, BEq.rfl, beq_self_eq_true, decide_true, decide_false, reduceCtorEq, Nat.reduceLT, Nat.reduceEqDiff, ↓reduceIte, g43d1, i0, i1, i2, i3, l0, l1, l2, l3, w0, w1, w2, w3, s0, s1, s2, r1, r2, r3, a1, a2, a3]
  refine W.ret ?_
  exact ⟨.inr rfl, rfl, _, by simp only [resultA, g43, tget_puts, Nat.reduceLT, Nat.reduceEqDiff, ↓reduceIte], rfl, rfl⟩
end
end Go.Am
end

section
namespace Go.Am
open Go

theorem Reads.src {n : Nat} {H : AHeap} {v : AVal} {l : List AVal} (h : Reads n H v l) : srcCells H 1 v = some (l.length, l) := by
  rcases h with ⟨rfl, rfl⟩ | ⟨b, o, cap, sz, rfl, h, _⟩
  · rfl
  · unfold srcCells
    simp only [mul1, h]

section
variable {E : Env} (C : CodeOk4 E)
include C

theorem rdec_inner {N : Nat} {H0 : AHeap} {x : AVal} {uss : List (List Nat)} {acc : List Nat} (hx : Lists N H0 x uss) (hN : N ≤ H0.nx.toNat) (hu : ∀ us ∈ uss, ∀ u ∈ us, u < 256) (ht : (uss.flatMap id).length ≤ 16777216) (ha : acc.length ≤ 16777216) {j : Nat} (hj : j < uss.length) {t0 : PT AVal} {ro : Option Pos} :
    ∀ (n : Nat) (t : PT AVal) (H : AHeap), (∃ i lv, i + n = uss[j].length / 4 ∧ tget t (Pos.ofNat 3) = x ∧ tget t (Pos.ofNat 11) = .int .i64 (.ofNat j) ∧ tget t (Pos.ofNat 12) = .int .i64 (.ofNat (4 * i)) ∧ tget t (Pos.ofNat 10) = lv ∧ Grows N H lv (icells (acc ++ (nums4 uss[j]).take i)) ∧ Keep N H0 H ∧ Pres [0, 1, 2, 3, 11] t0 t) →
    W E (.loop g21l8) ro ⟨t, []⟩ H (fun e a H' => e = .exit 2 ∧ a.ds = [] ∧ Grows N H' (tget a.t (Pos.ofNat 10)) (icells (acc ++ nums4 uss[j])) ∧ Keep N H0 H' ∧ Pres [0, 1, 2, 3, 11] t0 a.t) := by
  refine W.loop_inv (Q := fun e a H' => e = .exit 2 ∧ a.ds = [] ∧ Grows N H' (tget a.t (Pos.ofNat 10)) (icells (acc ++ nums4 uss[j])) ∧ Keep N H0 H' ∧ Pres [0, 1, 2, 3, 11] t0 a.t) _ ?_
  rintro n t H ⟨i, lv, hi, h3, h11, h12, hlv, hg, hk, hp⟩
  obtain ⟨lx, ax⟩ := (hx.keep hk (Nat.le_refl _)).at
  obtain ⟨b, o, vi, e1, e2, e3⟩ := ax j hj
  have hul := total_at hj
  have hub := hu _ (List.getElem_mem hj)
  generalize hus : uss[j] = us at *
  refine W.seq (W.seq (W.region ?_))
  simp (maxDischargeDepth := 9) only [auW, auC, auT, lget, BEq.rfl, beq_self_eq_true, decide_true, decide_false, reduceCtorEq, Nat.reduceLT, Nat.reduceEqDiff, ↓reduceIte, g21r5, h3, h11, h12, e1, e2, e3.fLen, cells_length, b_add (show 4 * i + 4 ≤ 9223372036854775807 by omega)]
  refine W.cond_if (p := 4 * i + 4 ≤ us.length) (by simp [AOpnd.ev, tget_puts]) (fun hlt => W.skip ?_) (fun hge => W.exit ?_)
  rotate_left
  · have hii : i = us.length / 4 := by omega
    refine ⟨by trivial, by trivial, ?_, hk, ?_⟩
    · simp only [tget_puts, Nat.reduceLT, Nat.reduceEqDiff, ↓reduceIte, hlv]
      rw [hii, List.take_of_length_le (by rw [nums4_length]; omega)] at hg
      exact hg
    · (try dsimp only); repeat (refine Pres.put ?_ (by decide) (by decide))
      exact hp
  simp only [andThen]
  have hnum := ref_number C e3 hub (k := 4 * i) hlt (by omega)
  refine W.seq (W.block (W.region ?_))
  simp (maxDischargeDepth := 9) only [auW, auC, auT, lget, BEq.rfl, beq_self_eq_true, decide_true, decide_false, reduceCtorEq, Nat.reduceLT, Nat.reduceEqDiff, ↓reduceIte, g21r6, h3, h11, h12, hlv, e1, e2]
  refine wo_callE (hnum) (by simp only [auT, Nat.reduceLT, Nat.reduceEqDiff, ↓reduceIte]) ?_
  refine wo_buildSlice (fill1 (v := .int .i64 (.ofNat (num4 us[4 * i] us[4 * i + 1] us[4 * i + 2] us[4 * i + 3]))) (by simp [-Int.ofNat_eq_natCast, AOpnd.ev, tget_puts]) rfl) ?_
  have hNn : N ≤ H.nx.toNat := Nat.le_trans hN hk.nx
  obtain ⟨v', H', f3, r3, k3⟩ := append_grows (by' := 8) (hg.keep (keep_new (x := .cells [.int .i64 (.ofNat (num4 us[4 * i] us[4 * i + 1] us[4 * i + 2] us[4 * i + 3]))] false false))) src_new (Nat.le_trans hNn keep_new.nx) (by simp) rfl (by
    rw [icells_length]; simp [nums4_length]; omega)
  refine wo_append (by simpa [AOpnd.ev, tget_puts, hlv] using f3) ?_
  simp (maxDischargeDepth := 9) only [auW, auC, auT, lget, BEq.rfl, beq_self_eq_true, decide_true, decide_false, reduceCtorEq, Nat.reduceLT, Nat.reduceEqDiff, ↓reduceIte]
  simp only [andThen, inBlock]
  refine W.region ?_
  simp (maxDischargeDepth := 9) only [auW, auC, auT, lget, BEq.rfl, beq_self_eq_true, decide_true, decide_false, reduceCtorEq, Nat.reduceLT, Nat.reduceEqDiff, ↓reduceIte, h12, b_add (show 4 * i + 4 ≤ 9223372036854775807 by omega)]
  refine ⟨by trivial, n - 1, by omega, i + 1, v', by omega, ?_, ?_, ?_, ?_, ?_, ?_, ?_⟩
  · simp only [tget_puts, Nat.reduceLT, Nat.reduceEqDiff, ↓reduceIte, h3]
  · simp only [tget_puts, Nat.reduceLT, Nat.reduceEqDiff, ↓reduceIte, h11]
  · rw [show 4 * (i + 1) = 4 * i + 4 by omega]
    try (simp only [tget_puts, Nat.reduceLT, Nat.reduceEqDiff, ↓reduceIte])
  · simp only [tget_puts, Nat.reduceLT, Nat.reduceEqDiff, ↓reduceIte]
  · have hlt' : i < (nums4 us).length := by rw [nums4_length]; omega
    rw [List.take_succ_eq_append_getElem hlt', nums4_at us i hlt, ← List.append_assoc]
    simpa [icells] using r3
  · exact hk.trans ((keep_new.mono hNn).trans k3)
  · (try dsimp only); repeat (refine Pres.put ?_ (by decide) (by decide))
    exact hp

theorem rdec_outer {N : Nat} {H0 : AHeap} {x : AVal} {uss : List (List Nat)} (hx : Lists N H0 x uss) (hN : N ≤ H0.nx.toNat) (hu : ∀ us ∈ uss, ∀ u ∈ us, u < 256) (hl : uss.length ≤ 4611686018427387904) (ht : (uss.flatMap id).length ≤ 16777216) {t0 : PT AVal} {ro : Option Pos} (h03 : tget t0 (Pos.ofNat 3) = x) :
    ∀ (n : Nat) (t : PT AVal) (H : AHeap), (∃ i lv, i + n = uss.length ∧ tget t (Pos.ofNat 11) = .int .i64 (.ofNat i) ∧ tget t (Pos.ofNat 10) = lv ∧ Grows N H lv (icells (allNums (uss.take i))) ∧ Keep N H0 H ∧ Pres [0, 1, 2, 3] t0 t) →
    W E (.loop g21l10) ro ⟨t, []⟩ H (fun e a H' => e = .exit 0 ∧ a.ds = [] ∧ Grows N H' (tget a.t (Pos.ofNat 10)) (icells (allNums uss)) ∧ Keep N H0 H' ∧ Pres [0, 1, 2, 3] t0 a.t) := by
  refine W.loop_inv (Q := fun e a H' => e = .exit 0 ∧ a.ds = [] ∧ Grows N H' (tget a.t (Pos.ofNat 10)) (icells (allNums uss)) ∧ Keep N H0 H' ∧ Pres [0, 1, 2, 3] t0 a.t) _ ?_
  rintro n t H ⟨i, lv, hi, h11, hlv, hg, hk, hp⟩
  have h3 := (hp 3 (by decide)).trans h03
  obtain ⟨lx, ax⟩ := (hx.keep hk (Nat.le_refl _)).at
  refine W.seq (W.seq (W.region ?_))
  simp (maxDischargeDepth := 9) only [auW, auC, auT, lget, BEq.rfl, beq_self_eq_true, decide_true, decide_false, reduceCtorEq, Nat.reduceLT, Nat.reduceEqDiff, ↓reduceIte, g21r3, h11, h3, lx]
  refine W.cond_if (p := i < uss.length) (by simp [AOpnd.ev, tget_puts]) (fun hlt => W.skip ?_) (fun hge => W.exit ?_)
  rotate_left
  · refine ⟨by trivial, by trivial, ?_, hk, ?_⟩
    · rw [List.take_of_length_le (by omega)] at hg
      simp only [tget_puts, Nat.reduceLT, Nat.reduceEqDiff, ↓reduceIte, hlv]
      exact hg
    · (try dsimp only); repeat (refine Pres.put ?_ (by decide) (by decide))
      exact hp
  simp only [andThen]
  have htk := total_take uss i
  refine W.seq (W.block (W.seq (W.region ?_)))
  simp (maxDischargeDepth := 9) only [auW, auC, auT, lget, BEq.rfl, beq_self_eq_true, decide_true, decide_false, reduceCtorEq, Nat.reduceLT, Nat.reduceEqDiff, ↓reduceIte, g21r4]
  have hNn : N ≤ H.nx.toNat := Nat.le_trans hN hk.nx
  refine W.block (W.mono (rdec_inner C (N := N) (H0 := H) (acc := allNums (uss.take i)) (t0 := t) (hx.keep hk (Nat.le_refl _)) hNn hu ht (by omega) hlt (uss[i].length / 4) _ H ⟨0, lv, by omega, ?_, ?_, ?_, ?_, ?_, Keep.refl _ _, ?_⟩) ?_)
  · simp only [tget_puts, Nat.reduceLT, Nat.reduceEqDiff, ↓reduceIte, h3]
  · simp only [tget_puts, Nat.reduceLT, Nat.reduceEqDiff, ↓reduceIte, h11]
  · simp only [tget_puts, Nat.reduceLT, Nat.reduceEqDiff, ↓reduceIte]
  · simp only [tget_puts, Nat.reduceLT, Nat.reduceEqDiff, ↓reduceIte, hlv]
  · simpa using hg
  · (try dsimp only); repeat (refine Pres.put ?_ (by decide) (by decide))
    exact Pres.refl _ _
  rintro e ⟨t', ds⟩ H' ⟨rfl, hd, hg', hk', hp'⟩
  have hd : ds = [] := hd
  subst hd
  have hp' : Pres [0, 1, 2, 3, 11] t t' := hp'
  have hg' : Grows N H' (tget t' (Pos.ofNat 10)) (icells (allNums (uss.take i) ++ nums4 uss[i])) := hg'
  have k11 := (hp' 11 (by decide)).trans h11
  simp only [andThen, inBlock, beq_t]
  refine W.region ?_
  simp (maxDischargeDepth := 9) only [auW, auC, auT, lget, BEq.rfl, beq_self_eq_true, decide_true, decide_false, reduceCtorEq, Nat.reduceLT, Nat.reduceEqDiff, ↓reduceIte, g21r9, k11, b_add (show i + 1 ≤ 9223372036854775807 by omega)]
  refine ⟨by trivial, n - 1, by omega, i + 1, tget t' (Pos.ofNat 10), by omega, ?_, ?_, ?_, hk.trans hk', ?_⟩
  · simp only [tget_puts, Nat.reduceLT, Nat.reduceEqDiff, ↓reduceIte]
  · simp only [tget_puts, Nat.reduceLT, Nat.reduceEqDiff, ↓reduceIte]
  · rw [allNums_take hlt]; exact hg'
  · (try dsimp only); repeat (refine Pres.put ?_ (by decide) (by decide))
    exact hp.trans fun p h => hp' p (by revert p; decide)

theorem ref_decode {N : Nat} {H : AHeap} {x y : AVal} {us : List Nat} {uss : List (List Nat)} (gen n : Int) (hx : Reads N H x (cellsOfBytes us)) (hy : Lists N H y uss) (hN : N ≤ H.nx.toNat) (hu : ∀ u ∈ us, u < 256) (huu : ∀ us ∈ uss, ∀ u ∈ us, u < 256) (hl : uss.length ≤ 1073741824) (ht : (uss.flatMap id).length ≤ 16777216) :
    ∃ v H', CallS E 21 [.int .i64 gen, .int .i64 n, x, y] H v H' ∧ DecR gen n us uss v H' ∧ Keep N H H' := by
  refine CallS.by (R := fun v H' => DecR gen n us uss v H' ∧ Keep N H H') (t0 := tput (tput (tput (tput .l (some (Pos.ofNat 0)) (.int .i64 gen)) (some (Pos.ofNat 1)) (.int .i64 n)) (some (Pos.ofNat 2)) x) (some (Pos.ofNat 3)) y) (C.s _ rfl) rfl C.f21 rfl ?_
  refine W.seq (W.region ?_)
  simp (maxDischargeDepth := 9) only [auW, auC, auT, lget, BEq.rfl, beq_self_eq_true, decide_true, decide_false, reduceCtorEq, Nat.reduceLT, Nat.reduceEqDiff, ↓reduceIte, g21r0]
  refine W.seq (W.region ?_)
  simp (maxDischargeDepth := 9) only [auW, auC, auT, lget, BEq.rfl, beq_self_eq_true, decide_true, decide_false, reduceCtorEq, Nat.reduceLT, Nat.reduceEqDiff, ↓reduceIte, g21r1]
  refine W.seq (W.seq (W.region ?_))
  simp (maxDischargeDepth := 9) only [auW, auC, auT, lget, BEq.rfl, beq_self_eq_true, decide_true, decide_false, reduceCtorEq, Nat.reduceLT, Nat.reduceEqDiff, ↓reduceIte, g21r2]
  refine W.block (W.mono (rdec_outer C (t0 := tput (tput (tput (tput .l (some (Pos.ofNat 0)) (.int .i64 gen)) (some (Pos.ofNat 1)) (.int .i64 n)) (some (Pos.ofNat 2)) x) (some (Pos.ofNat 3)) y) hy hN huu (by omega) ht (by simp only [tget_puts, Nat.reduceLT, Nat.reduceEqDiff, ↓reduceIte]) uss.length _ H ⟨0, .snil, by omega, ?_, ?_, .inl ⟨rfl, rfl⟩, Keep.refl _ _, ?_⟩) ?_)
  · simp only [tget_puts, Nat.reduceLT, Nat.reduceEqDiff, ↓reduceIte]
  · simp only [tget_puts, Nat.reduceLT, Nat.reduceEqDiff, ↓reduceIte]
  · (try dsimp only); repeat (first | refine Pres.put ?_ (by decide) (by decide) | exact Pres.refl _ _)
  rintro e ⟨t, ds⟩ H1 ⟨rfl, hd, hg, hk, hp⟩
  have hd : ds = [] := hd
  subst hd
  have hp : Pres [0, 1, 2, 3] _ t := hp
  have hg : Grows N H1 (tget t (Pos.ofNat 10)) (icells (allNums uss)) := hg
  have h0 : tget t (Pos.ofNat 0) = .int .i64 gen := (hp 0 (by decide)).trans (by simp only [tget_puts, Nat.reduceLT, Nat.reduceEqDiff, ↓reduceIte])
  have h1 : tget t (Pos.ofNat 1) = .int .i64 n := (hp 1 (by decide)).trans (by simp only [tget_puts, Nat.reduceLT, Nat.reduceEqDiff, ↓reduceIte])
  have h2 : tget t (Pos.ofNat 2) = x := (hp 2 (by decide)).trans (by simp only [tget_puts, Nat.reduceLT, Nat.reduceEqDiff, ↓reduceIte])
  have h3 : tget t (Pos.ofNat 3) = y := (hp 3 (by decide)).trans (by simp only [tget_puts, Nat.reduceLT, Nat.reduceEqDiff, ↓reduceIte])
  generalize hlv : tget t (Pos.ofNat 10) = lv at hg
  clear hp
  simp only [andThen, inBlock, beq_t]
  have hnl := allNums_length uss
  generalize hns : allNums uss = ns at *
  have hN1 : N ≤ H1.nx.toNat := Nat.le_trans hN hk.nx
  have fin90 : ∀ {t : PT AVal} {H2 : AHeap} {r : Nat} {K : AAct → AHeap → Prop} {rr : List AOper}, rr = g21r12 ∨ rr = g21r17 → Keep N H H2 → ¬ DecGood gen n us uss → W E (.seq (.region rr) .ret) none ⟨t, []⟩ H2 (andThen K (fun e a' H' => (e = .normal ∨ e = .ret) ∧ a'.ds = [] ∧ ∃ v, (match resultA a'.t H' g21.results with | some [v] => some v | some l => some (.tup l) | none => none) = some v ∧ DecR gen n us uss v H' ∧ Keep N H H')) := by
    intro t H2 _ K rr hrr k02 hbad
    refine W.seq (W.region ?_)
    rcases hrr with rfl | rfl
    · simp (maxDischargeDepth := 9) only [auW, auC, auT, lget, BEq.rfl, beq_self_eq_true, decide_true, decide_false, reduceCtorEq, Nat.reduceLT, Nat.reduceEqDiff, ↓reduceIte, g21r12]
      refine W.ret ⟨.inr rfl, rfl, .tup [.snil, .int .i64 (.ofNat 90)], ?_, .inl ⟨hbad, rfl⟩, k02⟩
      simp only [resultA, g21, tget_puts, Nat.reduceLT, Nat.reduceEqDiff, ↓reduceIte]
    · simp (maxDischargeDepth := 9) only [auW, auC, auT, lget, BEq.rfl, beq_self_eq_true, decide_true, decide_false, reduceCtorEq, Nat.reduceLT, Nat.reduceEqDiff, ↓reduceIte, g21r17]
      refine W.ret ⟨.inr rfl, rfl, .tup [.snil, .int .i64 (.ofNat 90)], ?_, .inl ⟨hbad, rfl⟩, k02⟩
      simp only [resultA, g21, tget_puts, Nat.reduceLT, Nat.reduceEqDiff, ↓reduceIte]
  refine W.seq (W.seq (W.region ?_))
  simp (maxDischargeDepth := 9) only [auW, auC, auT, lget, BEq.rfl, beq_self_eq_true, decide_true, decide_false, reduceCtorEq, Nat.reduceLT, Nat.reduceEqDiff, ↓reduceIte, g21r11, hlv, h1, hg.reads.fLen, icells_length]
  by_cases hlen : (Int.ofNat ns.length) = n
  rotate_left
  · simp only [hlen, decide_false, Bool.not_false]
    refine W.cond_true (by simp [AOpnd.ev, tget_puts]) (fin90 (r := 0) (.inl rfl) hk fun h => hlen ?_)
    rw [← hns]
    exact h.2.1
  simp only [hlen, decide_true, Bool.not_true]
  refine W.cond_false (by simp [AOpnd.ev, tget_puts]) (W.skip ?_)
  simp only [andThen]
  obtain ⟨ve, H2, ce, re, ke⟩ := ref_encode C.toCodeOk (zs := ns.map Int.ofNat) (by rw [zcells_nat]; exact hg.reads) (Nat.le_refl _) (by simp; omega) gen
  refine W.seq (W.region ?_)
  simp (maxDischargeDepth := 9) only [auW, auC, auT, lget, BEq.rfl, beq_self_eq_true, decide_true, decide_false, reduceCtorEq, Nat.reduceLT, Nat.reduceEqDiff, ↓reduceIte, g21r13, h0, hlv]
  refine wo_callE (ce) (by simp only [auT, Nat.reduceLT, Nat.reduceEqDiff, ↓reduceIte, h0, hlv]) ?_
  have k02 : Keep N H H2 := hk.trans (ke.mono hN1)
  have hg2 : Grows N H2 lv (icells ns) := hg.keep ke
  have hx2 := (hx.keep k02 (Nat.le_refl _)).mono (Nat.le_trans hN k02.nx)
  have hy2 := (hy.keep k02 (Nat.le_refl _)).mono (Nat.le_trans hN k02.nx)
  have hnil : Reads H2.nx.toNat H2 .snil (cellsOfBytes []) := .inl ⟨rfl, rfl⟩
  have hnill : Lists H2.nx.toNat H2 .snil [] := ⟨[], .inl ⟨rfl, rfl⟩, rfl, fun i vi us e => by simp at e⟩
  rcases re with ⟨hbad, rfl⟩ | ⟨hgood, vh, vd, rfl, rh, rd⟩
  · simp (maxDischargeDepth := 9) only [auW, auC, auT, lget, BEq.rfl, beq_self_eq_true, decide_true, decide_false, reduceCtorEq, Nat.reduceLT, Nat.reduceEqDiff, ↓reduceIte]
    have c13 := eq_bytes' C.toCodeOk2 hnil hx2 (by simp) hu
    have c14 := eq_lists' C hnill hy2 (by simp) huu (by simp)
    refine W.seq (W.region ?_)
    simp (maxDischargeDepth := 9) only [auW, auC, auT, lget, BEq.rfl, beq_self_eq_true, decide_true, decide_false, reduceCtorEq, Nat.reduceLT, Nat.reduceEqDiff, ↓reduceIte, g21r14, h2]
    refine wo_callE (c13) (by simp only [auT, Nat.reduceLT, Nat.reduceEqDiff, ↓reduceIte, h2]) ?_
    simp (maxDischargeDepth := 9) only [auW, auC, auT, lget, BEq.rfl, beq_self_eq_true, decide_true, decide_false, reduceCtorEq, Nat.reduceLT, Nat.reduceEqDiff, ↓reduceIte]
    refine W.seq (W.region ?_)
    simp (maxDischargeDepth := 9) only [auW, auC, auT, lget, BEq.rfl, beq_self_eq_true, decide_true, decide_false, reduceCtorEq, Nat.reduceLT, Nat.reduceEqDiff, ↓reduceIte, g21r15, h3]
    refine wo_callE (c14) (by simp only [auT, Nat.reduceLT, Nat.reduceEqDiff, ↓reduceIte, h3]) ?_
    simp (maxDischargeDepth := 9) only [auW, auC, auT, lget, BEq.rfl, beq_self_eq_true, decide_true, decide_false, reduceCtorEq, Nat.reduceLT, Nat.reduceEqDiff, ↓reduceIte]
    refine W.seq (W.seq (W.region ?_))
    have z191 : AVal.int .i64 191 = .int .i64 (.ofNat 191) := rfl
    simp (maxDischargeDepth := 9) only [auW, auC, auT, lget, BEq.rfl, beq_self_eq_true, decide_true, decide_false, reduceCtorEq, Nat.reduceLT, Nat.reduceEqDiff, ↓reduceIte, g21r16, z191]
    refine W.cond_true (by simp [AOpnd.ev, tget_puts]) (fin90 (r := 0) (.inr rfl) k02 fun h => hbad ?_)
    rw [← hns]
    exact h.1
  have hgl : ((ns.map Int.ofNat).map Int.toNat) = ns := map_toNat ns
  rw [hgl] at rh rd
  simp only [List.length_map] at rh
  have z0 : AVal.int .i64 0 = .int .i64 (.ofNat 0) := rfl
  have c13 := eq_bytes' C.toCodeOk2 rh hx2 (all4_bytes _) hu
  have c14 := eq_lists' C rd hy2 (chs_bytes _ _) huu (by rw [chs_length]; unfold kc; omega)
  simp (maxDischargeDepth := 9) only [auW, auC, auT, lget, BEq.rfl, beq_self_eq_true, decide_true, decide_false, reduceCtorEq, Nat.reduceLT, Nat.reduceEqDiff, ↓reduceIte, z0]
  refine W.seq (W.region ?_)
  simp (maxDischargeDepth := 9) only [auW, auC, auT, lget, BEq.rfl, beq_self_eq_true, decide_true, decide_false, reduceCtorEq, Nat.reduceLT, Nat.reduceEqDiff, ↓reduceIte, g21r14, h2]
  refine wo_callE (c13) (by simp only [auT, Nat.reduceLT, Nat.reduceEqDiff, ↓reduceIte, h2]) ?_
  simp (maxDischargeDepth := 9) only [auW, auC, auT, lget, BEq.rfl, beq_self_eq_true, decide_true, decide_false, reduceCtorEq, Nat.reduceLT, Nat.reduceEqDiff, ↓reduceIte]
  refine W.seq (W.region ?_)
  simp (maxDischargeDepth := 9) only [auW, auC, auT, lget, BEq.rfl, beq_self_eq_true, decide_true, decide_false, reduceCtorEq, Nat.reduceLT, Nat.reduceEqDiff, ↓reduceIte, g21r15, h3]
  refine wo_callE (c14) (by simp only [auT, Nat.reduceLT, Nat.reduceEqDiff, ↓reduceIte, h3]) ?_
  simp (maxDischargeDepth := 9) only [auW, auC, auT, lget, BEq.rfl, beq_self_eq_true, decide_true, decide_false, reduceCtorEq, Nat.reduceLT, Nat.reduceEqDiff, ↓reduceIte]
  refine W.seq (W.seq (W.region ?_))
  simp (maxDischargeDepth := 9) only [auW, auC, auT, lget, BEq.rfl, beq_self_eq_true, decide_true, decide_false, reduceCtorEq, Nat.reduceLT, Nat.reduceEqDiff, ↓reduceIte, g21r16]
  by_cases hhead : all4 [gen.toNat, ns.length, gmax ns] = us
  rotate_left
  · have : strEq (all4 [gen.toNat, ns.length, gmax ns]) us = false := by
      cases hb : strEq (all4 [gen.toNat, ns.length, gmax ns]) us with
      | false => rfl
      | true => exact absurd (strEq_eqv.1 hb) hhead
    simp only [this, Bool.not_false]
    simp (maxDischargeDepth := 9) only [auW, auC, auT, lget, BEq.rfl, beq_self_eq_true, decide_true, decide_false, reduceCtorEq, Nat.reduceLT, Nat.reduceEqDiff, ↓reduceIte]
    refine W.cond_true (by simp [AOpnd.ev, tget_puts]) (fin90 (r := 0) (.inr rfl) k02 fun h => hhead ?_)
    rw [← hns]
    exact h.2.2.1.symm
  simp only [strEq_eqv.2 hhead, Bool.not_true]
  simp (maxDischargeDepth := 9) only [auW, auC, auT, lget, BEq.rfl, beq_self_eq_true, decide_true, decide_false, reduceCtorEq, Nat.reduceLT, Nat.reduceEqDiff, ↓reduceIte]
  by_cases hdata : chs ns (kc ns) = uss
  rotate_left
  · have : allEq (chs ns (kc ns)) uss = false := by
      cases hb : allEq (chs ns (kc ns)) uss with
      | false => rfl
      | true => exact absurd (allEq_iff.1 hb) hdata
    refine W.cond_true (by simp [AOpnd.ev, tget_puts, this]) (fin90 (r := 0) (.inr rfl) k02 fun h => hdata ?_)
    rw [← hns]
    exact h.2.2.2.symm
  refine W.cond_false (by simp [AOpnd.ev, tget_puts, allEq_iff.2 hdata]) (W.skip ?_)
  simp only [andThen]
  refine W.seq (W.region ?_)
  simp (maxDischargeDepth := 9) only [auW, auC, auT, lget, BEq.rfl, beq_self_eq_true, decide_true, decide_false, reduceCtorEq, Nat.reduceLT, Nat.reduceEqDiff, ↓reduceIte, g21r18, hlv]
  refine W.ret ⟨.inr rfl, rfl, .tup [lv, .int .i64 (.ofNat 0)], ?_, .inr ⟨⟨by rw [hns]; exact hgood, by rw [hns]; exact hlen, by rw [hns]; exact hhead.symm, by rw [hns]; exact hdata.symm⟩, lv, rfl, by rw [hns]; exact hg2.reads⟩, k02⟩
  simp only [resultA, g21, tget_puts, Nat.reduceLT, Nat.reduceEqDiff, ↓reduceIte]
end
end Go.Am
end
