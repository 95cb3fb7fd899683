/- Part of the proof: AmB4, AmB5. -/
import Derived.Test.YtkajhokkaadiiaaGreatDoorFn7
set_option linter.unusedSimpArgs false
set_option linter.unusedVariables false
section
namespace Go.Am
open Go

theorem Reads.nilOrSl {n : Nat} {H : AHeap} {v : AVal} {l : List AVal} (h : Reads n H v l) : v = .snil ∧ l = [] ∨ Sl v l.length := by
  rcases h with h | ⟨b, o, cap, sz, e, _, _, h3, h4⟩
  · exact .inl h
  · exact .inr ⟨b, o, cap, sz, e, h3, h4⟩
/-- A list of texts: one of them. -/
theorem Lists.at {n : Nat} {H : AHeap} {v : AVal} {uss : List (List Nat)} (h : Lists n H v uss) : fLen H 1 v = some (.int .i64 (.ofNat uss.length)) ∧ ∀ (i : Nat) (hi : i < uss.length), ∃ b o vi, fIdxS 1 v (.int .i64 (.ofNat i)) = some (.ptr b o) ∧ hload H b o = some vi ∧ Reads n H vi (cellsOfBytes uss[i]) := by
  obtain ⟨vs, h1, h2, h3⟩ := h
  refine ⟨by rw [h1.fLen, h2], fun i hi => ?_⟩
  have hi' : i < vs.length := by omega
  obtain ⟨b, o, e1, e2⟩ := h1.fIdx hi'
  exact ⟨b, o, vs[i], e1, e2, h3 i _ _ (List.getElem?_eq_getElem hi') (List.getElem?_eq_getElem hi)⟩
theorem allEq_drop {l m : List (List Nat)} {i : Nat} (h1 : i < l.length) (h2 : i < m.length) : allEq (l.drop i) (m.drop i) = (strEq l[i] m[i] && allEq (l.drop (i + 1)) (m.drop (i + 1))) := by
  rw [List.drop_eq_getElem_cons h1, List.drop_eq_getElem_cons h2]
  rfl
theorem allEq_len {l m : List (List Nat)} (h : l.length ≠ m.length) : allEq l m = false := by
  cases hb : allEq l m with
  | false => rfl
  | true => exact absurd (congrArg List.length (allEq_iff.1 hb)) h

section
variable {E : Env} (C : CodeOk2 E)
include C

theorem eq_lists {n : Nat} {H : AHeap} {x y : AVal} {uss vss : List (List Nat)} (hx : Lists n H x uss) (hy : Lists n H y vss) (hu : ∀ us ∈ uss, ∀ u ∈ us, u < 256) (hv : ∀ us ∈ vss, ∀ u ∈ us, u < 256) (hl : uss.length ≤ 4611686018427387904) : CallS E 41 [x, y, .func 40 [] []] H (.bool (allEq uss vss)) H := by
  suffices h : ∃ v H', CallS E 41 [x, y, .func 40 [] []] H v H' ∧ v = .bool (allEq uss vss) ∧ H' = H by obtain ⟨v, H', h, rfl, rfl⟩ := h; exact h
  obtain ⟨lx, ax⟩ := hx.at
  obtain ⟨ly, ay⟩ := hy.at
  refine CallS.by (R := fun v H' => v = .bool (allEq uss vss) ∧ H' = H) (t0 := tput (tput (tput .l (some (Pos.ofNat 0)) x) (some (Pos.ofNat 1)) y) (some (Pos.ofNat 2)) (.func 40 [] [])) (C.s _ rfl) rfl C.f41 rfl ?_
  refine W.seq (W.region ?_)
  simp (maxDischargeDepth := 9) only [auW, auC, auT, lget, BEq.rfl, beq_self_eq_true, decide_true, decide_false, reduceCtorEq, Nat.reduceLT, Nat.reduceEqDiff, ↓reduceIte, g41r0]
  refine W.seq (W.seq (W.region ?_))
  simp (maxDischargeDepth := 9) only [auW, auC, auT, lget, BEq.rfl, beq_self_eq_true, decide_true, decide_false, reduceCtorEq, Nat.reduceLT, Nat.reduceEqDiff, ↓reduceIte, g41r1, lx, ly]
  refine W.cond_if (p := ¬ uss.length = vss.length) (by simp [AOpnd.ev, tget_puts]) (fun hne => W.seq (W.region ?_)) (fun heq => W.skip ?_)
  · simp (maxDischargeDepth := 9) only [auW, auC, auT, lget, BEq.rfl, beq_self_eq_true, decide_true, decide_false, reduceCtorEq, Nat.reduceLT, Nat.reduceEqDiff, ↓reduceIte, g41r2]
    refine W.ret ⟨.inr rfl, rfl, .bool (allEq uss vss), ?_, rfl, rfl⟩
    rw [allEq_len hne]
    simp only [resultA, g41, tget_puts, Nat.reduceLT, Nat.reduceEqDiff, ↓reduceIte]
  have heq : uss.length = vss.length := by simpa using heq
  simp only [andThen]
  refine W.seq (W.seq (W.region ?_))
  simp (maxDischargeDepth := 9) only [auW, auC, auT, lget, BEq.rfl, beq_self_eq_true, decide_true, decide_false, reduceCtorEq, Nat.reduceLT, Nat.reduceEqDiff, ↓reduceIte, g41r3, lx]
  refine W.block ?_
  refine W.mono (W.loop_inv (Q := fun e a H' => H' = H ∧ a.ds = [] ∧ ((e = .exit 0 ∧ allEq uss vss = true) ∨ (e = .ret ∧ tget a.t (Pos.ofNat 6) = .bool false ∧ allEq uss vss = false))) (fun n t H1 => ∃ i, H1 = H ∧ i + n = uss.length ∧ tget t (Pos.ofNat 1) = y ∧ tget t (Pos.ofNat 2) = .func 40 [] [] ∧ tget t (Pos.ofNat 15) = x ∧ tget t (Pos.ofNat 16) = .int .i64 (.ofNat uss.length) ∧ tget t (Pos.ofNat 17) = .int .i64 (.ofNat i) ∧ allEq (uss.drop i) (vss.drop i) = allEq uss vss) ?_ uss.length _ H ⟨0, rfl, by omega, ?_, ?_, ?_, ?_, ?_, rfl⟩) ?_
  rotate_left
  all_goals try (simp only [tget_puts, Nat.reduceLT, Nat.reduceEqDiff, ↓reduceIte]; done)
  · rintro e ⟨t, ds⟩ H' ⟨rfl, hd, (⟨rfl, ha⟩ | ⟨rfl, h6, ha⟩)⟩
    · simp only [inBlock, andThen]
      have hd : ds = [] := hd
      subst hd
      refine W.seq (W.region ?_)
      simp (maxDischargeDepth := 9) only [auW, auC, auT, lget, BEq.rfl, beq_self_eq_true, decide_true, decide_false, reduceCtorEq, Nat.reduceLT, Nat.reduceEqDiff, ↓reduceIte, g41r11]
      refine W.ret ⟨.inr rfl, rfl, .bool (allEq uss vss), ?_, rfl, rfl⟩
      rw [ha]
      simp only [resultA, g41, tget_puts, Nat.reduceLT, Nat.reduceEqDiff, ↓reduceIte]
    · simp only [inBlock, andThen]
      have h6 : tget t (Pos.ofNat 6) = .bool false := h6
      refine ⟨.inr trivial, hd, .bool (allEq uss vss), ?_, rfl, trivial⟩
      rw [ha]
      simp only [resultA, g41, h6]
  rintro n t H1 ⟨i, rfl, hi, h1, h2, h15, h16, h17, hall⟩
  refine W.seq (W.region ?_)
  simp (maxDischargeDepth := 9) only [auW, auC, auT, lget, BEq.rfl, beq_self_eq_true, decide_true, decide_false, reduceCtorEq, Nat.reduceLT, Nat.reduceEqDiff, ↓reduceIte, g41r4, h16, h17]
  refine W.seq (W.cond_if (p := i < uss.length) (by simp [AOpnd.ev, tget_puts]) (fun hlt => W.skip ?_) (fun hge => W.exit ?_))
  rotate_left
  · refine ⟨by trivial, by trivial, .inl ⟨by trivial, ?_⟩⟩
    rw [← hall, List.drop_eq_nil_of_le (by omega), List.drop_eq_nil_of_le (by omega)]
    rfl
  obtain ⟨b, o, vi, e1, e2, e3⟩ := ax i hlt
  obtain ⟨b', o', vi', e1', e2', e3'⟩ := ay i (by omega)
  have hc := eq_bytes C e3 e3' (hu _ (List.getElem_mem _)) (hv _ (List.getElem_mem _))
  refine W.seq (W.block (W.seq (W.region ?_)))
  simp (maxDischargeDepth := 9) only [auW, auC, auT, lget, BEq.rfl, beq_self_eq_true, decide_true, decide_false, reduceCtorEq, Nat.reduceLT, Nat.reduceEqDiff, ↓reduceIte, g41r5, h15, h17, e1, e2]
  refine W.seq (W.region ?_)
  simp (maxDischargeDepth := 9) only [auW, auC, auT, lget, BEq.rfl, beq_self_eq_true, decide_true, decide_false, reduceCtorEq, Nat.reduceLT, Nat.reduceEqDiff, ↓reduceIte, g41r6, h1, e1', e2']
  refine W.seq (W.region ?_)
  simp (maxDischargeDepth := 9) only [auW, auC, auT, lget, BEq.rfl, beq_self_eq_true, decide_true, decide_false, reduceCtorEq, Nat.reduceLT, Nat.reduceEqDiff, ↓reduceIte, g41r7, h2]
  refine wo_callV (f := 40) (first := []) (caps := []) (by simp only [auT, Nat.reduceLT, Nat.reduceEqDiff, ↓reduceIte, h2]) hc (by simp only [auT, Nat.reduceLT, Nat.reduceEqDiff, ↓reduceIte]; rfl) ?_
  simp (maxDischargeDepth := 9) only [auW, auC, auT, lget, BEq.rfl, beq_self_eq_true, decide_true, decide_false, reduceCtorEq, Nat.reduceLT, Nat.reduceEqDiff, ↓reduceIte]
  cases hse : strEq uss[i] vss[i] with
  | false =>
    refine W.cond_true (by simp [AOpnd.ev, tget_puts]) (W.seq (W.region ?_))
    simp (maxDischargeDepth := 9) only [auW, auC, auT, lget, BEq.rfl, beq_self_eq_true, decide_true, decide_false, reduceCtorEq, Nat.reduceLT, Nat.reduceEqDiff, ↓reduceIte, g41r8]
    refine W.ret ⟨by trivial, by trivial, .inr ⟨by trivial, ?_, ?_⟩⟩
    · simp only [tget_puts, Nat.reduceLT, Nat.reduceEqDiff, ↓reduceIte]
    · rw [← hall, allEq_drop hlt (by omega), hse]; rfl
  | true =>
    refine W.cond_false (by simp [AOpnd.ev, tget_puts]) (W.skip ?_)
    simp only [andThen, inBlock]
    refine W.region ?_
    simp (maxDischargeDepth := 9) only [auW, auC, auT, lget, BEq.rfl, beq_self_eq_true, decide_true, decide_false, reduceCtorEq, Nat.reduceLT, Nat.reduceEqDiff, ↓reduceIte, g41r9, h17, b_add (show i + 1 ≤ 9223372036854775807 by omega)]
    refine ⟨by trivial, n - 1, by omega, i + 1, by trivial, by omega, ?_, ?_, ?_, ?_, ?_, ?_⟩
    · simp only [tget_puts, Nat.reduceLT, Nat.reduceEqDiff, ↓reduceIte, h1]
    · simp only [tget_puts, Nat.reduceLT, Nat.reduceEqDiff, ↓reduceIte, h2]
    · simp only [tget_puts, Nat.reduceLT, Nat.reduceEqDiff, ↓reduceIte, h15]
    · simp only [tget_puts, Nat.reduceLT, Nat.reduceEqDiff, ↓reduceIte, h16]
    · simp only [tget_puts, Nat.reduceLT, Nat.reduceEqDiff, ↓reduceIte]
    · rw [← hall, allEq_drop hlt (by omega), hse]; rfl
end
end Go.Am
end

section
namespace Go.Am
open Go

theorem clip_slice {t : PT AVal} {H : AHeap} {n : Nat} {v : AVal} {l : List AVal} (h : Grows n H v l) {X Y Z : AOpnd} (hX : X.ev t = v) (hY : Y.ev t = .int .i64 (.ofNat l.length)) (hZ : Z.ev t = .int .i64 (.ofNat l.length)) :
    ∃ v', sliceA t (.sl 1) v none (some Y) (some Z) = some v' ∧ Reads H.nx.toNat H v' l := by
  have hr := h.reads
  rcases h with ⟨rfl, rfl⟩ | ⟨b, rfl, hg, h1, h2⟩
  · refine ⟨.snil, ?_, .inl ⟨rfl, rfl⟩⟩
    simp only [sliceA, boundOf, hY, hZ, natOf, List.length_nil, ble_t (Nat.le_refl 0)]
  · rcases hr with ⟨hr, _⟩ | ⟨b', o', cap', sz', he, hl, hb⟩
    · cases hr
    · cases he
      have e1 : Nat.ble l.length l.length = true := ble_t (Nat.le_refl _)
      have e2 : Nat.ble 0 l.length = true := ble_t (Nat.zero_le _)
      by_cases h0 : l.length = 0
      · refine ⟨.sl b 0 l.length l.length 0, ?_, .inr ⟨b, 0, l.length, 0, rfl, hl, h2, .inl rfl, Nat.le_refl _⟩⟩
        have e3 : Nat.beq l.length 0 = true := by rw [h0]; rfl
        simp only [sliceA, boundOf, hY, hZ, natOf, e1, e2, e3, nsub, Nat.sub_zero, beq_t]
      · refine ⟨.sl b 0 l.length l.length 0, ?_, .inr ⟨b, 0, l.length, 0, rfl, hl, h2, .inl rfl, Nat.le_refl _⟩⟩
        have e3 : Nat.beq l.length 0 = false := beq_f h0
        simp only [sliceA, boundOf, hY, hZ, natOf, e1, e2, e3, nsub, Nat.sub_zero, beq_t, off1, Nat.zero_add]
theorem allNums_take {uss : List (List Nat)} {i : Nat} (h : i < uss.length) : allNums (uss.take (i + 1)) = allNums (uss.take i) ++ nums4 uss[i] := by
  unfold allNums
  rw [List.take_succ_eq_append_getElem h, List.flatMap_append]
  simp only [List.flatMap_cons, List.flatMap_nil, List.append_nil]
theorem total_take (uss : List (List Nat)) (i : Nat) : (allNums (uss.take i)).length ≤ (uss.flatMap id).length := by
  refine Nat.le_trans (allNums_length _) ?_
  have : uss.flatMap id = (uss.take i).flatMap id ++ (uss.drop i).flatMap id := by rw [← List.flatMap_append, List.take_append_drop]
  rw [this, List.length_append]
  omega
theorem total_at {uss : List (List Nat)} {i : Nat} (h : i < uss.length) : uss[i].length ≤ (uss.flatMap id).length := by
  have : uss.flatMap id = (uss.take i).flatMap id ++ (uss[i] ++ (uss.drop (i + 1)).flatMap id) := by
    conv => lhs; rw [← List.take_append_drop i uss, List.drop_eq_getElem_cons h, List.flatMap_append, List.flatMap_cons]
    rfl
  rw [this, List.length_append, List.length_append]
  omega
/-- What Decode answers. -/
def DecGood (gen n : Int) (us : List Nat) (uss : List (List Nat)) : Prop :=
  Good gen ((allNums uss).map Int.ofNat) ∧ ((allNums uss).length : Int) = n ∧ us = all4 [gen.toNat, (allNums uss).length, gmax (allNums uss)] ∧ uss = chs (allNums uss) (kc (allNums uss))
def DecR (gen n : Int) (us : List Nat) (uss : List (List Nat)) (v : AVal) (H' : AHeap) : Prop :=
  (¬ DecGood gen n us uss ∧ v = .tup [.snil, .int .i64 (.ofNat 90)]) ∨ (DecGood gen n us uss ∧ ∃ x, v = .tup [x, .int .i64 (.ofNat 0)] ∧ Reads H'.nx.toNat H' x (icells (allNums uss)))
theorem map_toNat (l : List Nat) : (l.map Int.ofNat).map Int.toNat = l := by
  rw [List.map_map]
  conv => rhs; rw [← List.map_id l]
  exact List.map_congr_left fun _ _ => rfl
theorem zcells_nat (l : List Nat) : zcells (l.map Int.ofNat) = icells l := by simp [zcells, icells]
theorem chs_bytes (l : List Nat) (k : Nat) : ∀ us ∈ chs l k, ∀ u ∈ us, u < 256 := by
  intro us hus u hu
  simp only [chs, List.mem_map] at hus
  obtain ⟨j, _, rfl⟩ := hus
  simp only [all4, List.mem_flatMap] at hu
  obtain ⟨m, _, hm⟩ := hu
  exact b4_lt m u hm
theorem all4_bytes (l : List Nat) : ∀ u ∈ all4 l, u < 256 := by
  intro u hu
  simp only [all4, List.mem_flatMap] at hu
  obtain ⟨m, _, hm⟩ := hu
  exact b4_lt m u hm
theorem bool_dec (b : Bool) (p : Prop) [Decidable p] (h : b = true ↔ p) : b = decide p := by
  cases b <;> simp_all

section
variable {E : Env} (C : CodeOk2 E)
include C

theorem dec_outer {N : Nat} {H0 : AHeap} {x : AVal} {uss : List (List Nat)} (hx : Lists N H0 x uss) (hN : N ≤ H0.nx.toNat) (hu : ∀ us ∈ uss, ∀ u ∈ us, u < 256) (hl : uss.length ≤ 4611686018427387904) (ht : (uss.flatMap id).length ≤ 16777216) {t0 : PT AVal} {ro : Option Pos} :
    ∀ (n : Nat) (t : PT AVal) (H : AHeap), (∃ i lv, i + n = uss.length ∧ tget t (Pos.ofNat 17) = x ∧ tget t (Pos.ofNat 18) = .int .i64 (.ofNat uss.length) ∧ tget t (Pos.ofNat 19) = .int .i64 (.ofNat i) ∧ tget t (Pos.ofNat 10) = lv ∧ Grows N H lv (icells (allNums (uss.take i))) ∧ Keep N H0 H ∧ Pres [0, 1, 2, 3] t0 t) →
    W E (.loop g20l12) ro ⟨t, []⟩ H (fun e a H' => e = .exit 0 ∧ a.ds = [] ∧ Grows N H' (tget a.t (Pos.ofNat 10)) (icells (allNums uss)) ∧ Keep N H0 H' ∧ Pres [0, 1, 2, 3] t0 a.t) := by
  refine W.loop_inv (Q := fun e a H' => e = .exit 0 ∧ a.ds = [] ∧ Grows N H' (tget a.t (Pos.ofNat 10)) (icells (allNums uss)) ∧ Keep N H0 H' ∧ Pres [0, 1, 2, 3] t0 a.t) _ ?_
  rintro n t H ⟨i, lv, hi, h17, h18, h19, hlv, hg, hk, hp⟩
  refine W.seq (W.region ?_)
  simp (maxDischargeDepth := 9) only [auW, auC, auT, lget, BEq.rfl, beq_self_eq_true, decide_true, decide_false, reduceCtorEq, Nat.reduceLT, Nat.reduceEqDiff, ↓reduceIte, g20r3, h18, h19]
  refine W.seq (W.cond_if (p := i < uss.length) (by simp [AOpnd.ev, tget_puts]) (fun hlt => W.skip ?_) (fun hge => W.exit ?_))
  rotate_left
  · refine ⟨rfl, rfl, ?_, hk, hp.put (by decide) (by decide)⟩
    rw [List.take_of_length_le (by omega)] at hg
    simp only [tget_puts, Nat.reduceLT, Nat.reduceEqDiff, ↓reduceIte, hlv]
    exact hg
  obtain ⟨lx, ax⟩ := (hx.keep hk (Nat.le_refl _)).at
  obtain ⟨b, o, vi, e1, e2, e3⟩ := ax i hlt
  have hul := total_at hlt
  have htk := total_take uss i
  refine W.seq (W.block (W.seq (W.region ?_)))
  simp (maxDischargeDepth := 9) only [auW, auC, auT, lget, BEq.rfl, beq_self_eq_true, decide_true, decide_false, reduceCtorEq, Nat.reduceLT, Nat.reduceEqDiff, ↓reduceIte, g20r4, h17, h19, e1, e2]
  refine W.seq (W.region ?_)
  simp (maxDischargeDepth := 9) only [auW, auC, auT, lget, BEq.rfl, beq_self_eq_true, decide_true, decide_false, reduceCtorEq, Nat.reduceLT, Nat.reduceEqDiff, ↓reduceIte, g20r5, e3.fLen, cells_length, b_quo (i := uss[i].length) (k := 4) (by decide) (by omega)]
  have hNn : N ≤ H.nx.toNat := Nat.le_trans hN hk.nx
  refine W.block (W.mono (dec_inner C (N := N) (H0 := H) (acc := allNums (uss.take i)) (ps := [0, 1, 2, 3, 17, 18, 19]) (t0 := t) e3 hNn (hu _ (List.getElem_mem _)) (by omega) (by omega) (by decide) (by decide) (by decide) (uss[i].length / 4) _ H ⟨0, lv, by omega, ?_, ?_, ?_, ?_, ?_, Keep.refl _ _, ?_⟩) ?_)
  · simp only [tget_puts, Nat.reduceLT, Nat.reduceEqDiff, ↓reduceIte]
  · simp only [tget_puts, Nat.reduceLT, Nat.reduceEqDiff, ↓reduceIte]
  · simp only [tget_puts, Nat.reduceLT, Nat.reduceEqDiff, ↓reduceIte]
  · simp only [tget_puts, Nat.reduceLT, Nat.reduceEqDiff, ↓reduceIte, hlv]
  · simpa using hg
  · (try dsimp only); repeat (refine Pres.put ?_ (by decide) (by decide))
    exact Pres.refl _ _
  rintro e ⟨t', ds⟩ H' ⟨rfl, hd, hg', hk', hp'⟩
  have hd : ds = [] := hd
  subst hd
  have hp' : Pres [0, 1, 2, 3, 17, 18, 19] t t' := hp'
  have hg' : Grows N H' (tget t' (Pos.ofNat 10)) (icells (allNums (uss.take i) ++ nums4 uss[i])) := hg'
  have k17 := (hp' 17 (by decide)).trans h17
  have k18 := (hp' 18 (by decide)).trans h18
  have k19 := (hp' 19 (by decide)).trans h19
  simp only [andThen, inBlock, beq_t]
  refine W.region ?_
  simp (maxDischargeDepth := 9) only [auW, auC, auT, lget, BEq.rfl, beq_self_eq_true, decide_true, decide_false, reduceCtorEq, Nat.reduceLT, Nat.reduceEqDiff, ↓reduceIte, g20r11, k19, b_add (show i + 1 ≤ 9223372036854775807 by omega)]
  refine ⟨by trivial, n - 1, by omega, i + 1, tget t' (Pos.ofNat 10), by omega, ?_, ?_, ?_, ?_, ?_, hk.trans hk', ?_⟩
  · simp only [tget_puts, Nat.reduceLT, Nat.reduceEqDiff, ↓reduceIte, k17]
  · simp only [tget_puts, Nat.reduceLT, Nat.reduceEqDiff, ↓reduceIte, k18]
  · simp only [tget_puts, Nat.reduceLT, Nat.reduceEqDiff, ↓reduceIte]
  · simp only [tget_puts, Nat.reduceLT, Nat.reduceEqDiff, ↓reduceIte]
  · rw [allNums_take hlt]; exact hg'
  · (try dsimp only); repeat (refine Pres.put ?_ (by decide) (by decide))
    exact hp.trans fun p h => hp' p (by revert p; decide)

theorem clip_ok {n : Nat} {H : AHeap} {v : AVal} {l : List AVal} (h : Grows n H v l) : ∃ v', CallS E 42 [v] H v' H ∧ Reads H.nx.toNat H v' l := by
  suffices hh : ∃ v' H', CallS E 42 [v] H v' H' ∧ Reads H.nx.toNat H v' l ∧ H' = H by obtain ⟨v', H', h1, h2, rfl⟩ := hh; exact ⟨v', h1, h2⟩
  refine CallS.by (R := fun v' H' => Reads H.nx.toNat H v' l ∧ H' = H) (t0 := tput .l (some (Pos.ofNat 0)) v) (C.s _ rfl) rfl C.f42 rfl ?_
  refine W.seq (W.region ?_)
  simp (maxDischargeDepth := 9) only [auW, auC, auT, lget, BEq.rfl, beq_self_eq_true, decide_true, decide_false, reduceCtorEq, Nat.reduceLT, Nat.reduceEqDiff, ↓reduceIte, g42r0]
  refine W.seq (W.region ?_)
  simp (maxDischargeDepth := 9) only [auW, auC, auT, lget, BEq.rfl, beq_self_eq_true, decide_true, decide_false, reduceCtorEq, Nat.reduceLT, Nat.reduceEqDiff, ↓reduceIte, g42r1, h.reads.fLen]
  obtain ⟨v', e, hr⟩ := clip_slice h (t := tput (tput (tput (tput (tput (tput (tput .l (some (Pos.ofNat 0)) v) (some (Pos.ofNat 2)) .snil) (some (Pos.ofNat 3)) v) (some (Pos.ofNat 4)) v) (some (Pos.ofNat 5)) (.int .i64 (.ofNat l.length))) (some (Pos.ofNat 6)) v) (some (Pos.ofNat 7)) (.int .i64 (.ofNat l.length))) (X := .t (Pos.ofNat 3)) (Y := .t (Pos.ofNat 5)) (Z := .t (Pos.ofNat 7)) (by simp [AOpnd.ev, tget_puts]) (by simp [AOpnd.ev, tget_puts]) (by simp [AOpnd.ev, tget_puts])
  simp (maxDischargeDepth := 9) only [auW, auC, auT, lget, BEq.rfl, beq_self_eq_true, decide_true, decide_false, reduceCtorEq, Nat.reduceLT, Nat.reduceEqDiff, ↓reduceIte, e]
  refine W.ret ⟨.inr rfl, rfl, v', ?_, hr, rfl⟩
  simp only [resultA, g42, tget_puts, Nat.reduceLT, Nat.reduceEqDiff, ↓reduceIte]

theorem decode_ok {N : Nat} {H : AHeap} {x y : AVal} {us : List Nat} {uss : List (List Nat)} (gen n : Int) (hx : Reads N H x (cellsOfBytes us)) (hy : Lists N H y uss) (hN : N ≤ H.nx.toNat) (hu : ∀ u ∈ us, u < 256) (huu : ∀ us ∈ uss, ∀ u ∈ us, u < 256) (hl : uss.length ≤ 1073741824) (ht : (uss.flatMap id).length ≤ 16777216) :
    ∃ v H', CallS E 20 [.int .i64 gen, .int .i64 n, x, y] H v H' ∧ DecR gen n us uss v H' ∧ Keep N H H' := by
  refine CallS.by (R := fun v H' => DecR gen n us uss v H' ∧ Keep N H H') (t0 := tput (tput (tput (tput .l (some (Pos.ofNat 0)) (.int .i64 gen)) (some (Pos.ofNat 1)) (.int .i64 n)) (some (Pos.ofNat 2)) x) (some (Pos.ofNat 3)) y) (C.s _ rfl) rfl C.f20 rfl ?_
  refine W.seq (W.region ?_)
  simp (maxDischargeDepth := 9) only [auW, auC, auT, lget, BEq.rfl, beq_self_eq_true, decide_true, decide_false, reduceCtorEq, Nat.reduceLT, Nat.reduceEqDiff, ↓reduceIte, g20r0]
  refine W.seq (W.region ?_)
  simp (maxDischargeDepth := 9) only [auW, auC, auT, lget, BEq.rfl, beq_self_eq_true, decide_true, decide_false, reduceCtorEq, Nat.reduceLT, Nat.reduceEqDiff, ↓reduceIte, g20r1]
  refine W.seq (W.seq (W.region ?_))
  simp (maxDischargeDepth := 9) only [auW, auC, auT, lget, BEq.rfl, beq_self_eq_true, decide_true, decide_false, reduceCtorEq, Nat.reduceLT, Nat.reduceEqDiff, ↓reduceIte, g20r2, hy.at.1]
  refine W.block (W.mono (dec_outer C (t0 := tput (tput (tput (tput .l (some (Pos.ofNat 0)) (.int .i64 gen)) (some (Pos.ofNat 1)) (.int .i64 n)) (some (Pos.ofNat 2)) x) (some (Pos.ofNat 3)) y) hy hN huu (by omega) ht uss.length _ H ⟨0, .snil, by omega, ?_, ?_, ?_, ?_, .inl ⟨rfl, rfl⟩, Keep.refl _ _, ?_⟩) ?_)
  · simp only [tget_puts, Nat.reduceLT, Nat.reduceEqDiff, ↓reduceIte]
  · simp only [tget_puts, Nat.reduceLT, Nat.reduceEqDiff, ↓reduceIte]
  · simp only [tget_puts, Nat.reduceLT, Nat.reduceEqDiff, ↓reduceIte]
  · simp only [tget_puts, Nat.reduceLT, Nat.reduceEqDiff, ↓reduceIte]
  · (try dsimp only); repeat (first | refine Pres.put ?_ (by decide) (by decide) | exact Pres.refl _ _)
  rintro e ⟨t, ds⟩ H1 ⟨rfl, hd, hg, hk, hp⟩
  have hd : ds = [] := hd
  subst hd
  have hp : Pres [0, 1, 2, 3] _ t := hp
  have hg : Grows N H1 (tget t (Pos.ofNat 10)) (icells (allNums uss)) := hg
  have h0 : tget t (Pos.ofNat 0) = .int .i64 gen := (hp 0 (by decide)).trans (by simp only [tget_puts, Nat.reduceLT, Nat.reduceEqDiff, ↓reduceIte])
  have h1 : tget t (Pos.ofNat 1) = .int .i64 n := (hp 1 (by decide)).trans (by simp only [tget_puts, Nat.reduceLT, Nat.reduceEqDiff, ↓reduceIte])
  have h2 : tget t (Pos.ofNat 2) = x := (hp 2 (by decide)).trans (by simp only [tget_puts, Nat.reduceLT, Nat.reduceEqDiff, ↓reduceIte])
  have h3 : tget t (Pos.ofNat 3) = y := (hp 3 (by decide)).trans (by simp only [tget_puts, Nat.reduceLT, Nat.reduceEqDiff, ↓reduceIte])
  generalize hlv : tget t (Pos.ofNat 10) = lv at hg
  clear hp
  simp only [andThen, inBlock, beq_t]
  have hnl := allNums_length uss
  generalize hns : allNums uss = ns at *
  have hN1 : N ≤ H1.nx.toNat := Nat.le_trans hN hk.nx
  obtain ⟨ve, H2, ce, re, ke⟩ := encode_ok C.toCodeOk (zs := ns.map Int.ofNat) (by rw [zcells_nat]; exact hg.reads) (Nat.le_refl _) (by rw [← zcells_nat] at hg; have := hg.reads.nilOrSl; rw [zcells_length] at this; rcases this with ⟨a, b⟩ | h; exact .inl ⟨a, by simpa [zcells] using b⟩; exact .inr h) (by simp; omega) gen
  refine W.seq (W.region ?_)
  simp (maxDischargeDepth := 9) only [auW, auC, auT, lget, BEq.rfl, beq_self_eq_true, decide_true, decide_false, reduceCtorEq, Nat.reduceLT, Nat.reduceEqDiff, ↓reduceIte, g20r13, h0, hlv]
  refine wo_callE (ce) (by simp only [auT, Nat.reduceLT, Nat.reduceEqDiff, ↓reduceIte, h0, hlv]) ?_
  have k02 : Keep N H H2 := hk.trans (ke.mono hN1)
  have fin90 : ∀ {t : PT AVal}, ¬ DecGood gen n us uss → W E (.seq (.region g20r15) .ret) none ⟨t, []⟩ H2 (andThen (fun a' H' => W E (.seq (.region g20r16) .ret) none a' H' (fun e a' H' => (e = .normal ∨ e = .ret) ∧ a'.ds = [] ∧ ∃ v, (match resultA a'.t H' g20.results with | some [v] => some v | some l => some (.tup l) | none => none) = some v ∧ DecR gen n us uss v H' ∧ Keep N H H')) (fun e a' H' => (e = .normal ∨ e = .ret) ∧ a'.ds = [] ∧ ∃ v, (match resultA a'.t H' g20.results with | some [v] => some v | some l => some (.tup l) | none => none) = some v ∧ DecR gen n us uss v H' ∧ Keep N H H')) := by
    intro t hbad
    refine W.seq (W.region ?_)
    simp (maxDischargeDepth := 9) only [auW, auC, auT, lget, BEq.rfl, beq_self_eq_true, decide_true, decide_false, reduceCtorEq, Nat.reduceLT, Nat.reduceEqDiff, ↓reduceIte, g20r15]
    refine W.ret ⟨.inr rfl, rfl, .tup [.snil, .int .i64 (.ofNat 90)], ?_, .inl ⟨hbad, rfl⟩, k02⟩
    simp only [resultA, g20, tget_puts, Nat.reduceLT, Nat.reduceEqDiff, ↓reduceIte]
  have hg2 : Grows N H2 lv (icells ns) := hg.keep ke
  rcases re with ⟨hbad, rfl⟩ | ⟨hgood, vh, vd, rfl, rh, rd⟩
  · simp (maxDischargeDepth := 9) only [auW, auC, auT, lget, BEq.rfl, beq_self_eq_true, decide_true, decide_false, reduceCtorEq, Nat.reduceLT, Nat.reduceEqDiff, ↓reduceIte]
    refine W.seq (W.seq (W.region ?_))
    have z191 : AVal.int .i64 191 = .int .i64 (.ofNat 191) := rfl
    simp (maxDischargeDepth := 9) only [auW, auC, auT, lget, BEq.rfl, beq_self_eq_true, decide_true, decide_false, reduceCtorEq, Nat.reduceLT, Nat.reduceEqDiff, ↓reduceIte, g20r14, z191]
    refine W.cond_true (by simp [AOpnd.ev, tget_puts]) (fin90 fun h => hbad ?_)
    rw [← hns]
    exact h.1
  have hgl : ((ns.map Int.ofNat).map Int.toNat) = ns := map_toNat ns
  rw [hgl] at rh rd
  simp only [List.length_map] at rh
  have z0 : AVal.int .i64 0 = .int .i64 (.ofNat 0) := rfl
  have hx2 := (hx.keep k02 (Nat.le_refl _)).mono (Nat.le_trans hN k02.nx)
  have hy2 := (hy.keep k02 (Nat.le_refl _)).mono (Nat.le_trans hN k02.nx)
  have c40 := eq_bytes C rh hx2 (all4_bytes _) hu
  have c41 := eq_lists C rd hy2 (chs_bytes _ _) huu (by rw [chs_length]; unfold kc; omega)
  simp (maxDischargeDepth := 9) only [auW, auC, auT, lget, BEq.rfl, beq_self_eq_true, decide_true, decide_false, reduceCtorEq, Nat.reduceLT, Nat.reduceEqDiff, ↓reduceIte]
  refine W.seq (W.seq (W.region ?_))
  simp (maxDischargeDepth := 9) only [auW, auC, auT, lget, BEq.rfl, beq_self_eq_true, decide_true, decide_false, reduceCtorEq, Nat.reduceLT, Nat.reduceEqDiff, ↓reduceIte, g20r14, z0, hlv, h1, hg2.reads.fLen, icells_length]
  by_cases hlen : (Int.ofNat ns.length) = n
  rotate_left
  · simp only [hlen, decide_false, Bool.not_false]
    simp (maxDischargeDepth := 9) only [auW, auC, auT, lget, BEq.rfl, beq_self_eq_true, decide_true, decide_false, reduceCtorEq, Nat.reduceLT, Nat.reduceEqDiff, ↓reduceIte]
    refine W.cond_true (by simp [AOpnd.ev, tget_puts]) (fin90 fun h => hlen ?_)
    rw [← hns]
    exact h.2.1
  simp only [hlen, decide_true, Bool.not_true]
  simp (maxDischargeDepth := 9) only [auW, auC, auT, lget, BEq.rfl, beq_self_eq_true, decide_true, decide_false, reduceCtorEq, Nat.reduceLT, Nat.reduceEqDiff, ↓reduceIte, h2]
  refine wo_callE (c40) (by simp only [auT, Nat.reduceLT, Nat.reduceEqDiff, ↓reduceIte, h2]) ?_
  simp (maxDischargeDepth := 9) only [auW, auC, auT, lget, BEq.rfl, beq_self_eq_true, decide_true, decide_false, reduceCtorEq, Nat.reduceLT, Nat.reduceEqDiff, ↓reduceIte]
  by_cases hhead : all4 [gen.toNat, ns.length, gmax ns] = us
  rotate_left
  · have : strEq (all4 [gen.toNat, ns.length, gmax ns]) us = false := by
      cases hb : strEq (all4 [gen.toNat, ns.length, gmax ns]) us with
      | false => rfl
      | true => exact absurd (strEq_eqv.1 hb) hhead
    simp only [this, Bool.not_false]
    simp (maxDischargeDepth := 9) only [auW, auC, auT, lget, BEq.rfl, beq_self_eq_true, decide_true, decide_false, reduceCtorEq, Nat.reduceLT, Nat.reduceEqDiff, ↓reduceIte]
    refine W.cond_true (by simp [AOpnd.ev, tget_puts]) (fin90 fun h => hhead ?_)
    rw [← hns]
    exact h.2.2.1.symm
  simp only [strEq_eqv.2 hhead, Bool.not_true]
  simp (maxDischargeDepth := 9) only [auW, auC, auT, lget, BEq.rfl, beq_self_eq_true, decide_true, decide_false, reduceCtorEq, Nat.reduceLT, Nat.reduceEqDiff, ↓reduceIte, h3]
  refine wo_callE (c41) (by simp only [auT, Nat.reduceLT, Nat.reduceEqDiff, ↓reduceIte, h3]) ?_
  simp (maxDischargeDepth := 9) only [auW, auC, auT, lget, BEq.rfl, beq_self_eq_true, decide_true, decide_false, reduceCtorEq, Nat.reduceLT, Nat.reduceEqDiff, ↓reduceIte]
  by_cases hdata : chs ns (kc ns) = uss
  rotate_left
  · have : allEq (chs ns (kc ns)) uss = false := by
      cases hb : allEq (chs ns (kc ns)) uss with
      | false => rfl
      | true => exact absurd (allEq_iff.1 hb) hdata
    simp only [this, Bool.not_false]
    refine W.cond_true (by simp [AOpnd.ev, tget_puts]) (fin90 fun h => hdata ?_)
    rw [← hns]
    exact h.2.2.2.symm
  simp only [allEq_iff.2 hdata, Bool.not_true]
  refine W.cond_false (by simp [AOpnd.ev, tget_puts]) (W.skip ?_)
  simp only [andThen]
  obtain ⟨vc, cc, rc⟩ := clip_ok C hg2
  refine W.seq (W.region ?_)
  simp (maxDischargeDepth := 9) only [auW, auC, auT, lget, BEq.rfl, beq_self_eq_true, decide_true, decide_false, reduceCtorEq, Nat.reduceLT, Nat.reduceEqDiff, ↓reduceIte, g20r16, hlv]
  refine wo_callE (cc) (by simp only [auT, Nat.reduceLT, Nat.reduceEqDiff, ↓reduceIte, hlv]) ?_
  simp (maxDischargeDepth := 9) only [auW, auC, auT, lget, BEq.rfl, beq_self_eq_true, decide_true, decide_false, reduceCtorEq, Nat.reduceLT, Nat.reduceEqDiff, ↓reduceIte]
  refine W.ret ⟨.inr rfl, rfl, .tup [vc, .int .i64 (.ofNat 0)], ?_, .inr ⟨⟨by rw [hns]; exact hgood, by rw [hns]; exact hlen, by rw [hns]; exact hhead.symm, by rw [hns]; exact hdata.symm⟩, vc, rfl, by rw [hns]; exact rc⟩, k02⟩
  simp only [resultA, g20, tget_puts, Nat.reduceLT, Nat.reduceEqDiff, ↓reduceIte]
end
end Go.Am
end
