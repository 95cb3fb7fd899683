/- Part of the proof: AmD5, AmD6. -/
import Derived.Test.YtkajhokkaadiiaaGreatDoorFn11
set_option linter.unusedSimpArgs false
set_option linter.unusedVariables false
section
namespace Go.Am
open Go

theorem rem_ok (a : Int) {n : Nat} (hn : 0 < n) : binOpA .rem (.int .i64 a) (.int .i64 (.ofNat n)) = some (.int .i64 (Int.tmod a n)) := by
  show (match isZero (.ofNat n) with | true => none | false => some (AVal.int .i64 (remI a (.ofNat n)))) = _
  have hz : isZero (.ofNat n) = false := by
    obtain ⟨m, rfl⟩ : ∃ m, n = m + 1 := ⟨n - 1, by omega⟩
    rfl
  rw [hz]
  simp only
  congr 2
  cases a with
  | ofNat a => show Int.ofNat (Nat.mod a n) = _; rfl
  | negSucc a => rfl
theorem index_ok (a : Int) {n : Nat} (hn : 0 < n) (hs : n ≤ 1073741824) : ∃ j, j < n ∧ binOpA .add (.int .i64 (Int.tmod a n)) (.int .i64 (.ofNat n)) = some (.int .i64 (Int.tmod a n + n)) ∧ Int.tmod (Int.tmod a n + n) n = .ofNat j := by
  have h1 : Int.tmod a n < n := Int.tmod_lt_of_pos a (by omega)
  have h2 : -(n : Int) < Int.tmod a n := by
    have := Int.lt_tmod_of_pos a (b := (n : Int)) (by omega)
    omega
  obtain ⟨q, hq⟩ : ∃ q : Nat, Int.tmod a n + n = .ofNat q := ⟨(Int.tmod a n + n).toNat, (Int.toNat_of_nonneg (by omega)).symm⟩
  refine ⟨q % n, Nat.mod_lt _ hn, ?_, by rw [hq]; rfl⟩
  show some (AVal.int .i64 (wrapI .i64 (addI (Int.tmod a n) (.ofNat n)))) = _
  have ha : addI (Int.tmod a n) (.ofNat n) = Int.tmod a n + n := by
    cases Int.tmod a n <;> rfl
  rw [ha, hq]
  have : Nat.ble q 9223372036854775807 = true := ble_t (by have : (q : Int) = Int.tmod a n + n := hq.symm; omega)
  simp only [wrapI, this]
theorem xor_u8 (a b : Nat) : ∃ w, w < 256 ∧ binOpA .xor (.int .u8 (.ofNat a)) (.int .u8 (.ofNat b)) = some (.int .u8 (.ofNat w)) :=
  ⟨Nat.mod (Nat.mod (Nat.xor a b) 256) 256, Nat.mod_lt _ (by decide), rfl⟩
theorem LentB.idx {H : AHeap} {v : AVal} {us : List Nat} {b : Pos} (h : LentB H v us b) {j : Nat} (hj : j < us.length) : fIdxS 1 v (.int .i64 (.ofNat j)) = some (.ptr b j) ∧ hload H b j = some (.int .u8 (.ofNat us[j])) := by
  obtain ⟨rfl, hg⟩ := h
  refine ⟨by simp only [fIdxS, natOf, blt_t hj, off1, Nat.zero_add], ?_⟩
  unfold hload
  rw [hg]
  simp only
  have : ∀ (l m : List AVal) (i : Nat) (h : i < l.length), lget (l ++ m) i = some l[i] := by
    intro l m
    induction l with
    | nil => intro i h; simp at h
    | cons a l ih =>
      intro i h
      cases i with
      | zero => rfl
      | succ i => simpa [lget] using ih i (by simpa using h)
  rw [this _ _ j (by rw [cells_length]; exact hj), bcells_at us j hj]
theorem flat_set (uss : List (List Nat)) (us : List Nat) (h : 0 < uss.length) (hl : us.length = uss[0].length) : ((uss.set 0 us).flatMap id).length = (uss.flatMap id).length := by
  cases uss with
  | nil => simp at h
  | cons a l =>
    have hl : us.length = a.length := hl
    simp [hl]
theorem set_bytes {us : List Nat} (h : ∀ u ∈ us, u < 256) {k w : Nat} (hw : w < 256) : ∀ u ∈ us.set k w, u < 256 := by
  intro u hu
  rcases List.mem_or_eq_of_mem_set hu with hu | rfl
  · exact h u hu
  · exact hw
theorem sum_take {uss : List (List Nat)} {i : Nat} (h : i < uss.length) : ((uss.take (i + 1)).flatMap id).length = ((uss.take i).flatMap id).length + uss[i].length := by
  rw [List.take_succ_eq_append_getElem h, List.flatMap_append]
  simp
theorem sum_le (uss : List (List Nat)) (i : Nat) : ((uss.take i).flatMap id).length ≤ (uss.flatMap id).length := by
  have : uss.flatMap id = (uss.take i).flatMap id ++ (uss.drop i).flatMap id := by rw [← List.flatMap_append, List.take_append_drop]
  rw [this, List.length_append]
  omega

/-- Ahead of a round. -/
def RInv (gen n at' : Int) (xn N k : Nat) (t : PT AVal) (H : AHeap) : Prop := ∃ (c : Nat) (hv p : AVal) (us : List Nat) (uss : List (List Nat)) (hb B mb : Pos) (vs : List AVal) (bs : List Pos), c + k = 2 ∧ tget t (Pos.ofNat 0) = .int .i64 gen ∧ tget t (Pos.ofNat 1) = .int .i64 n ∧ tget t (Pos.ofNat 4) = .int .i64 at' ∧ tget t (Pos.ofNat 5) = .int .u8 (.ofNat xn) ∧ tget t (Pos.ofNat 16) = hv ∧ tget t (Pos.ofNat 17) = p ∧ tget t (Pos.ofNat 18) = .int .i64 (.ofNat c) ∧
  LentB H hv us hb ∧ hb.toNat < N ∧ N ≤ H.nx.toNat ∧ LentL N H p uss B mb vs bs ∧ (∀ u ∈ us, u < 256) ∧ (∀ us ∈ uss, ∀ u ∈ us, u < 256) ∧ us.length ≤ 16777216 ∧ uss.length ≤ 1073741824 ∧ (uss.flatMap id).length ≤ 16777216
/-- Behind the turning of a byte. -/
def RMid (N : Nat) (hv p : AVal) (hb B mb : Pos) (vs : List AVal) (bs : List Pos) (ts : PT AVal) : SPost := fun e a' H' => e = .normal ∧ a'.ds = [] ∧ Pres [0, 1, 4, 5, 16, 17, 18] ts a'.t ∧ ∃ us' uss', N ≤ H'.nx.toNat ∧ LentB H' hv us' hb ∧ LentL N H' p uss' B mb vs bs ∧ (∀ u ∈ us', u < 256) ∧ (∀ us ∈ uss', ∀ u ∈ us, u < 256) ∧ us'.length ≤ 16777216 ∧ uss'.length ≤ 1073741824 ∧ (uss'.flatMap id).length ≤ 16777216

section
variable {E : Env} (C : CodeOk4 E)
include C

omit C in
set_option maxHeartbeats 1000000 in
theorem turn_head {N : Nat} {H5 : AHeap} {hv p : AVal} {us : List Nat} {uss : List (List Nat)} {hb B mb : Pos} {vs : List AVal} {bs : List Pos} {at' : Int} {xn : Nat} {ro : Option Pos} {ts tt : PT AVal} (hbN : hb.toNat < N) (hN5 : N ≤ H5.nx.toNat) (hlb5 : LentB H5 hv us hb) (hp5 : LentL N H5 p uss B mb vs bs) (hu : ∀ u ∈ us, u < 256) (huu : ∀ us ∈ uss, ∀ u ∈ us, u < 256) (hul : us.length ≤ 16777216) (hpl : uss.length ≤ 1073741824) (hpt : (uss.flatMap id).length ≤ 16777216)
    (s4 : tget ts (Pos.ofNat 4) = .int .i64 at') (s5 : tget ts (Pos.ofNat 5) = .int .u8 (.ofNat xn)) (s16 : tget ts (Pos.ofNat 16) = hv) (hpr : Pres [0, 1, 4, 5, 16, 17, 18] ts tt) : W E (.seq (.region g4r25) (.cond (.t (Pos.ofNat 150)) (.region g4r26) .skip)) ro ⟨tt, []⟩ H5 (RMid N hv p hb B mb vs bs ts) := by
  have rh5 : Reads H5.nx.toNat H5 hv (cellsOfBytes us) := hlb5.reads (by omega)
  have e4 := (hpr 4 (by decide)).trans s4
  have e5 := (hpr 5 (by decide)).trans s5
  have e16 := (hpr 16 (by decide)).trans s16
  refine W.seq (W.region ?_)
  simp (maxDischargeDepth := 9) only [auW, auC, auT, lget, BEq.rfl, beq_self_eq_true, decide_true, decide_false, reduceCtorEq, Nat.reduceLT, Nat.reduceEqDiff, ↓reduceIte, g4r25, e16, rh5.fLen, cells_length]
  refine W.cond_if (p := 0 < us.length) (by simp [AOpnd.ev, tget_puts]) (fun hlt0 => W.region ?_) (fun hge => W.skip ?_)
  rotate_left
  · refine ⟨by trivial, by trivial, ?_, us, uss, hN5, hlb5, hp5, hu, huu, hul, hpl, hpt⟩
    (try dsimp only); repeat (refine Pres.put ?_ (by decide) (by decide))
    exact hpr
  obtain ⟨j, hj, ja, jr⟩ := index_ok at' hlt0 (by omega)
  obtain ⟨i1, i2⟩ := hlb5.idx hj
  obtain ⟨w, hw, hx⟩ := xor_u8 us[j] xn
  obtain ⟨st1, st2⟩ := hlb5.store (w := w) hj
  have jr' : binOpA .rem (.int .i64 (Int.tmod at' us.length + us.length)) (.int .i64 (.ofNat us.length)) = some (.int .i64 (.ofNat j)) := by rw [rem_ok _ hlt0, jr]
  simp (maxDischargeDepth := 9) only [auW, auC, auT, lget, BEq.rfl, beq_self_eq_true, decide_true, decide_false, reduceCtorEq, Nat.reduceLT, Nat.reduceEqDiff, ↓reduceIte, g4r26, e16, e4, e5, rh5.fLen, cells_length, rem_ok at' hlt0, ja, jr', i1, i2, hx]
  refine wo_store (b := hb) (o := j) (vs := [.int .u8 (.ofNat w)]) (by simp only [auT, Nat.reduceLT, Nat.reduceEqDiff, ↓reduceIte]) (by simp only [auT, Nat.reduceLT, Nat.reduceEqDiff, ↓reduceIte]; rfl) rfl st1 ?_
  simp (maxDischargeDepth := 9) only [auW, auC, auT, lget, BEq.rfl, beq_self_eq_true, decide_true, decide_false, reduceCtorEq, Nat.reduceLT, Nat.reduceEqDiff, ↓reduceIte]
  refine ⟨by trivial, by trivial, ?_, us.set j w, uss, hN5, st2, hp5.frame (Nat.le_refl _) (fun q hq _ => PT.get_set_other _ _ _ _ (fun e => by subst e; omega)), set_bytes hu hw, huu, by simpa using hul, hpl, hpt⟩
  (try dsimp only); repeat (refine Pres.put ?_ (by decide) (by decide))
  exact hpr


omit C in
set_option maxHeartbeats 1000000 in
theorem turn_data {N : Nat} {H5 : AHeap} {hv p : AVal} {us : List Nat} {uss : List (List Nat)} {hb B mb : Pos} {vs : List AVal} {bs : List Pos} {at' : Int} {xn : Nat} {ro : Option Pos} {ts tt : PT AVal} (hbN : hb.toNat < N) (hN5 : N ≤ H5.nx.toNat) (hlb5 : LentB H5 hv us hb) (hp5 : LentL N H5 p uss B mb vs bs) (hu : ∀ u ∈ us, u < 256) (huu : ∀ us ∈ uss, ∀ u ∈ us, u < 256) (hul : us.length ≤ 16777216) (hpl : uss.length ≤ 1073741824) (hpt : (uss.flatMap id).length ≤ 16777216)
    (s4 : tget ts (Pos.ofNat 4) = .int .i64 at') (s5 : tget ts (Pos.ofNat 5) = .int .u8 (.ofNat xn)) (s17 : tget ts (Pos.ofNat 17) = p) (hpr : Pres [0, 1, 4, 5, 16, 17, 18] ts tt) (hz : 0 < uss.length) (hz0 : 0 < uss[0].length) : W E (.draw g4d24) ro ⟨tt, []⟩ H5 (RMid N hv p hb B mb vs bs ts) := by
  have q4 := (hpr 4 (by decide)).trans s4
  have q5 := (hpr 5 (by decide)).trans s5
  have q17 := (hpr 17 (by decide)).trans s17
  obtain ⟨lp5, ap5⟩ := hp5.lists.at
  obtain ⟨b0, o0, v0, ip1, ip2, ip3⟩ := ap5 0 hz
  refine W.draw ?_
  obtain ⟨j, hj, ja, jr⟩ := index_ok at' hz0 (by have := total_at hz; omega)
  obtain ⟨w, hw, hx⟩ := xor_u8 uss[0][j] xn
  obtain ⟨bq, vq, m1, m2, m3, m4, m5, m6⟩ := hp5.store (w := w) hz hj
  obtain ⟨i1, i2⟩ := m3.idx hj
  have hvv : v0 = vq := by
    have hv0 : 0 < vs.length := by rw [hp5.lv]; exact hz
    have e1 : fIdxS 1 p (.int .i64 (.ofNat 0)) = some (.ptr B 0) := by
      rw [hp5.pv]
      simp only [fIdxS, natOf, blt_t hz, off1, Nat.zero_add]
    rw [e1] at ip1
    cases ip1
    have e2 : hload H5 B 0 = some vs[0] := by
      unfold hload
      rw [hp5.cell]
      simp only
      cases vs with
      | nil => simp at hv0
      | cons a l => rfl
    rw [e2] at ip2
    rw [List.getElem?_eq_getElem hv0] at m2
    exact (Option.some.inj ip2).symm.trans (Option.some.inj m2)
  subst hvv
  have jr' : binOpA .rem (.int .i64 (Int.tmod at' uss[0].length + uss[0].length)) (.int .i64 (.ofNat uss[0].length)) = some (.int .i64 (.ofNat j)) := by rw [rem_ok _ hz0, jr]
  simp (maxDischargeDepth := 9) only [auD, auC, auT, lget, BEq.rfl, beq_self_eq_true, decide_true, decide_false, reduceCtorEq, Nat.reduceLT, Nat.reduceEqDiff, ↓reduceIte, g4d24, q17, q4, q5, ip1, ip2, ip3.fLen, cells_length, rem_ok at' hz0, ja, jr', i1, i2, hx]
  refine wd_store (b := bq) (o := j) (vs := [.int .u8 (.ofNat w)]) (by simp only [auT, Nat.reduceLT, Nat.reduceEqDiff, ↓reduceIte]) (by simp only [auT, Nat.reduceLT, Nat.reduceEqDiff, ↓reduceIte]; rfl) rfl m4 (by repeat (first | exact again_nil' | refine again_skip rfl ?_)) ?_
  simp (maxDischargeDepth := 9) only [auD, auC, auT, lget, BEq.rfl, beq_self_eq_true, decide_true, decide_false, reduceCtorEq, Nat.reduceLT, Nat.reduceEqDiff, ↓reduceIte]
  refine ⟨by trivial, by trivial, ?_, us, uss.set 0 (uss[0].set j w), hN5, hlb5.of_get (PT.get_set_other _ _ _ _ (fun e => by subst e; omega)), m5, hu, ?_, hul, by simpa using hpl, by rw [flat_set _ _ hz (by simp)]; exact hpt⟩
  · (try dsimp only); repeat (refine Pres.put ?_ (by decide) (by decide))
    exact hpr
  · intro u hu'
    rcases List.mem_or_eq_of_mem_set hu' with hu' | rfl
    · exact huu u hu'
    · exact set_bytes (huu _ (List.getElem_mem hz)) hw



set_option maxHeartbeats 1000000 in
theorem decodes_loop (hst : ∀ {n : Nat} {H : AHeap} {m v : AVal} {b : Pos} {us : List Nat}, LentB H m us b → b.toNat < H.nx.toNat → Reads n H v (cellsOfBytes us) → (∀ u ∈ us, u < 256) → us.length ≤ 16777216 → CallS E 22 [m, v] H (.bool true) H)
    (gen n at' : Int) (xn : Nat) {N : Nat} {ro : Option Pos} :
    ∀ (k : Nat) (t : PT AVal) (H : AHeap), RInv gen n at' xn N k t H →
    W E (.loop g4l28) ro ⟨t, []⟩ H (fun e a H' => e = .exit 2 ∧ a.ds = []) := by
  refine W.loop_inv (Q := fun e a H' => e = .exit 2 ∧ a.ds = []) _ ?_
  rintro k t H ⟨c, hv, p, us, uss, hb, B, mb, vs, bs, hc, h0, h1, h4, h5, h16, h17, h18, hlb, hbN, hN, hp, hu, huu, hul, hpl, hpt⟩
  refine W.seq (W.seq (W.region ?_))
  simp (maxDischargeDepth := 9) only [auW, auC, auT, lget, BEq.rfl, beq_self_eq_true, decide_true, decide_false, reduceCtorEq, Nat.reduceLT, Nat.reduceEqDiff, ↓reduceIte, g4r13, h18]
  refine W.cond_if (p := c < 2) (by simp [AOpnd.ev, tget_puts]) (fun hlt => W.skip ?_) (fun hge => W.exit ?_)
  rotate_left
  · exact ⟨by trivial, by trivial⟩
  simp only [andThen]
  -- what is asked
  have rh : Reads H.nx.toNat H hv (cellsOfBytes us) := hlb.reads (by omega)
  have rp := hp.lists
  obtain ⟨v1, H1, c1, r1, k1⟩ := bytes_ok C rh (Nat.le_refl _) (by omega)
  have rp1 := rp.keep k1 (Nat.le_refl _)
  obtain ⟨v2, H2, c2, r2, k2⟩ := byteLists_ok C rp1 k1.nx hpl hpt
  have k02 : Keep H.nx.toNat H H2 := k1.trans (k2.mono k1.nx)
  have rh2 := rh.keep k02 (Nat.le_refl _)
  have rp2 := rp.keep k02 (Nat.le_refl _)
  obtain ⟨v3, H3, c3, r3, k3⟩ := decode_ok C.toCodeOk2 gen n (rh2.mono k02.nx) (rp2.mono k02.nx) (Nat.le_refl _) hu huu hpl hpt
  have ra3 := ((r1.reads).keep k2 (Nat.le_refl _)).keep k3 (Nat.le_trans (Nat.le_refl _) k2.nx)
  have rb3 := r2.keep k3 (Nat.le_refl _)
  have n13 : H1.nx.toNat ≤ H3.nx.toNat := Nat.le_trans k2.nx k3.nx
  obtain ⟨v4, H4, c4, r4, k4⟩ := ref_decode C gen n (ra3.mono n13) (rb3.mono k3.nx) (Nat.le_refl _) hu huu hpl hpt
  have k04 : Keep H.nx.toNat H H4 := k02.trans ((k3.mono k02.nx).trans (k4.mono (Nat.le_trans k02.nx k3.nx)))
  have hlb4 : LentB H4 hv us hb := hlb.of_get (k04.get _ (by omega))
  have hp4 : LentL N H4 p uss B mb vs bs := hp.keep k04
  have ra4 := ra3.keep k4 n13
  have rb4 := rb3.keep k4 k3.nx
  have hb4 : hb.toNat < H4.nx.toNat := by have := k04.nx; omega
  have c5 := hst hlb4 hb4 ra4 hu hul
  obtain ⟨H5, c6, k5⟩ := stayLists_ok C hst hp4 rb4 huu hpl hpt
  have k05 : Keep H.nx.toNat H H5 := k04.trans (k5.mono k04.nx)
  have hlb5 : LentB H5 hv us hb := hlb.of_get (k05.get _ (by omega))
  have hp5 : LentL N H5 p uss B mb vs bs := hp.keep k05
  have hN5 : N ≤ H5.nx.toNat := Nat.le_trans hN k05.nx
  obtain ⟨l, m, cd, rfl, rfl, hsame⟩ : ∃ l m cd, v3 = .tup [l, .int .i64 (.ofNat cd)] ∧ v4 = .tup [m, .int .i64 (.ofNat cd)] ∧ CallS E 12 [l, m] H5 (.bool true) H5 := by
    rcases r3 with ⟨b3, rfl⟩ | ⟨g3, x3, rfl, q3⟩
    · rcases r4 with ⟨b4, rfl⟩ | ⟨g4, x4, rfl, q4⟩
      · exact ⟨.snil, .snil, 90, rfl, rfl, same_ints C.toCodeOk (n := 0) (l := []) (.inl ⟨rfl, rfl⟩) (.inl ⟨rfl, rfl⟩) (by simp)⟩
      · exact absurd g4 b3
    · rcases r4 with ⟨b4, rfl⟩ | ⟨g4, x4, rfl, q4⟩
      · exact absurd g3 b4
      · have hnl := allNums_length uss
        have q3' := ((q3.keep k4 (Nat.le_refl _)).keep k5 k4.nx).mono (Nat.le_trans k4.nx k5.nx)
        have q4' := (q4.keep k5 (Nat.le_refl _)).mono k5.nx
        rw [← zcells_nat] at q3' q4'
        exact ⟨x3, x4, 0, rfl, rfl, same_ints C.toCodeOk q3' q4' (by simp; omega)⟩
  refine W.seq (W.block (W.seq (W.region ?_)))
  simp (maxDischargeDepth := 9) only [auW, auC, auT, lget, BEq.rfl, beq_self_eq_true, decide_true, decide_false, reduceCtorEq, Nat.reduceLT, Nat.reduceEqDiff, ↓reduceIte, g4r14, h16]
  refine wo_callE (c1) (by simp only [auT, Nat.reduceLT, Nat.reduceEqDiff, ↓reduceIte]) ?_
  simp (maxDischargeDepth := 9) only [auW, auC, auT, lget, BEq.rfl, beq_self_eq_true, decide_true, decide_false, reduceCtorEq, Nat.reduceLT, Nat.reduceEqDiff, ↓reduceIte]
  refine W.seq (W.region ?_)
  simp (maxDischargeDepth := 9) only [auW, auC, auT, lget, BEq.rfl, beq_self_eq_true, decide_true, decide_false, reduceCtorEq, Nat.reduceLT, Nat.reduceEqDiff, ↓reduceIte, g4r15, h17]
  refine wo_callE (c2) (by simp only [auT, Nat.reduceLT, Nat.reduceEqDiff, ↓reduceIte]) ?_
  simp (maxDischargeDepth := 9) only [auW, auC, auT, lget, BEq.rfl, beq_self_eq_true, decide_true, decide_false, reduceCtorEq, Nat.reduceLT, Nat.reduceEqDiff, ↓reduceIte]
  refine W.seq (W.region ?_)
  simp (maxDischargeDepth := 9) only [auW, auC, auT, lget, BEq.rfl, beq_self_eq_true, decide_true, decide_false, reduceCtorEq, Nat.reduceLT, Nat.reduceEqDiff, ↓reduceIte, g4r16, h0, h1, h16, h17]
  refine wo_callE (c3) (by simp only [auT, Nat.reduceLT, Nat.reduceEqDiff, ↓reduceIte]) ?_
  simp (maxDischargeDepth := 9) only [auW, auC, auT, lget, BEq.rfl, beq_self_eq_true, decide_true, decide_false, reduceCtorEq, Nat.reduceLT, Nat.reduceEqDiff, ↓reduceIte]
  refine W.seq (W.region ?_)
  simp (maxDischargeDepth := 9) only [auW, auC, auT, lget, BEq.rfl, beq_self_eq_true, decide_true, decide_false, reduceCtorEq, Nat.reduceLT, Nat.reduceEqDiff, ↓reduceIte, g4r17, h0, h1]
  refine wo_callE (c4) (by simp only [auT, Nat.reduceLT, Nat.reduceEqDiff, ↓reduceIte]) ?_
  simp (maxDischargeDepth := 9) only [auW, auC, auT, lget, BEq.rfl, beq_self_eq_true, decide_true, decide_false, reduceCtorEq, Nat.reduceLT, Nat.reduceEqDiff, ↓reduceIte]
  refine W.seq (W.region ?_)
  simp (maxDischargeDepth := 9) only [auW, auC, auT, lget, BEq.rfl, beq_self_eq_true, decide_true, decide_false, reduceCtorEq, Nat.reduceLT, Nat.reduceEqDiff, ↓reduceIte, g4r18, h16]
  refine wo_callE (c5) (by simp only [auT, Nat.reduceLT, Nat.reduceEqDiff, ↓reduceIte]) ?_
  simp (maxDischargeDepth := 9) only [auW, auC, auT, lget, BEq.rfl, beq_self_eq_true, decide_true, decide_false, reduceCtorEq, Nat.reduceLT, Nat.reduceEqDiff, ↓reduceIte]
  refine W.seq (W.region ?_)
  simp (maxDischargeDepth := 9) only [auW, auC, auT, lget, BEq.rfl, beq_self_eq_true, decide_true, decide_false, reduceCtorEq, Nat.reduceLT, Nat.reduceEqDiff, ↓reduceIte, g4r19, h17]
  refine wo_callE (c6) (by simp only [auT, Nat.reduceLT, Nat.reduceEqDiff, ↓reduceIte]) ?_
  simp (maxDischargeDepth := 9) only [auW, auC, auT, lget, BEq.rfl, beq_self_eq_true, decide_true, decide_false, reduceCtorEq, Nat.reduceLT, Nat.reduceEqDiff, ↓reduceIte]
  refine W.seq (W.region ?_)
  simp (maxDischargeDepth := 9) only [auW, auC, auT, lget, BEq.rfl, beq_self_eq_true, decide_true, decide_false, reduceCtorEq, Nat.reduceLT, Nat.reduceEqDiff, ↓reduceIte, g4r20]
  refine wo_callE (hsame) (by simp only [auT, Nat.reduceLT, Nat.reduceEqDiff, ↓reduceIte]) ?_
  simp (maxDischargeDepth := 9) only [auW, auC, auT, lget, BEq.rfl, beq_self_eq_true, decide_true, decide_false, reduceCtorEq, Nat.reduceLT, Nat.reduceEqDiff, ↓reduceIte]
  refine W.seq (W.seq (W.region ?_))
  simp (maxDischargeDepth := 9) only [auW, auC, auT, lget, BEq.rfl, beq_self_eq_true, decide_true, decide_false, reduceCtorEq, Nat.reduceLT, Nat.reduceEqDiff, ↓reduceIte, g4r21]
  refine wo_callE (num_ok C.toCodeOk (.int .i64 (.ofNat cd))) (by simp only [auT, Nat.reduceLT, Nat.reduceEqDiff, ↓reduceIte]) ?_
  simp (maxDischargeDepth := 9) only [auW, auC, auT, lget, BEq.rfl, beq_self_eq_true, decide_true, decide_false, reduceCtorEq, Nat.reduceLT, Nat.reduceEqDiff, ↓reduceIte]
  refine W.cond_false (by simp [AOpnd.ev, tget_puts]) (W.skip ?_)
  simp only [andThen]
  generalize hts : tput _ (some (Pos.ofNat 108)) _ = ts
  have s0 : tget ts (Pos.ofNat 0) = .int .i64 gen := by rw [← hts]; simp only [tget_puts, Nat.reduceLT, Nat.reduceEqDiff, ↓reduceIte, h0]
  have s1 : tget ts (Pos.ofNat 1) = .int .i64 n := by rw [← hts]; simp only [tget_puts, Nat.reduceLT, Nat.reduceEqDiff, ↓reduceIte, h1]
  have s4 : tget ts (Pos.ofNat 4) = .int .i64 at' := by rw [← hts]; simp only [tget_puts, Nat.reduceLT, Nat.reduceEqDiff, ↓reduceIte, h4]
  have s5 : tget ts (Pos.ofNat 5) = .int .u8 (.ofNat xn) := by rw [← hts]; simp only [tget_puts, Nat.reduceLT, Nat.reduceEqDiff, ↓reduceIte, h5]
  have s16 : tget ts (Pos.ofNat 16) = hv := by rw [← hts]; simp only [tget_puts, Nat.reduceLT, Nat.reduceEqDiff, ↓reduceIte, h16]
  have s17 : tget ts (Pos.ofNat 17) = p := by rw [← hts]; simp only [tget_puts, Nat.reduceLT, Nat.reduceEqDiff, ↓reduceIte, h17]
  have s18 : tget ts (Pos.ofNat 18) = .int .i64 (.ofNat c) := by rw [← hts]; simp only [tget_puts, Nat.reduceLT, Nat.reduceEqDiff, ↓reduceIte, h18]
  clear hts
  -- the round's end, whatever was turned
  have fin : ∀ {tt : PT AVal} {HH : AHeap} {us' : List Nat} {uss' : List (List Nat)}, Pres [0, 1, 4, 5, 16, 17, 18] ts tt → N ≤ HH.nx.toNat → LentB HH hv us' hb → LentL N HH p uss' B mb vs bs → (∀ u ∈ us', u < 256) → (∀ us ∈ uss', ∀ u ∈ us, u < 256) → us'.length ≤ 16777216 → uss'.length ≤ 1073741824 → (uss'.flatMap id).length ≤ 16777216 →
      W E (.region g4r27) ro ⟨tt, []⟩ HH (loopPost [] (RInv gen n at' xn N) (fun e a H' => e = .exit 2 ∧ a.ds = []) k) := by
    intro tt HH us' uss' hpr f1 f2 f3 f4 f5 f6 f7 f8
    have e0 := (hpr 0 (by decide)).trans s0
    have e1 := (hpr 1 (by decide)).trans s1
    have e4 := (hpr 4 (by decide)).trans s4
    have e5 := (hpr 5 (by decide)).trans s5
    have e16 := (hpr 16 (by decide)).trans s16
    have e17 := (hpr 17 (by decide)).trans s17
    have e18 := (hpr 18 (by decide)).trans s18
    refine W.region ?_
    simp (maxDischargeDepth := 9) only [auW, auC, auT, lget, BEq.rfl, beq_self_eq_true, decide_true, decide_false, reduceCtorEq, Nat.reduceLT, Nat.reduceEqDiff, ↓reduceIte, g4r27, e18, b_add (show c + 1 ≤ 9223372036854775807 by omega)]
    refine ⟨by trivial, k - 1, by omega, c + 1, hv, p, us', uss', hb, B, mb, vs, bs, by omega, ?_, ?_, ?_, ?_, ?_, ?_, ?_, f2, hbN, f1, f3, f4, f5, f6, f7, f8⟩
    · simp only [tget_puts, Nat.reduceLT, Nat.reduceEqDiff, ↓reduceIte, e0]
    · simp only [tget_puts, Nat.reduceLT, Nat.reduceEqDiff, ↓reduceIte, e1]
    · simp only [tget_puts, Nat.reduceLT, Nat.reduceEqDiff, ↓reduceIte, e4]
    · simp only [tget_puts, Nat.reduceLT, Nat.reduceEqDiff, ↓reduceIte, e5]
    · simp only [tget_puts, Nat.reduceLT, Nat.reduceEqDiff, ↓reduceIte, e16]
    · simp only [tget_puts, Nat.reduceLT, Nat.reduceEqDiff, ↓reduceIte, e17]
    · simp only [tget_puts, Nat.reduceLT, Nat.reduceEqDiff, ↓reduceIte]
  have rp5 := hp5.lists
  have rh5 : Reads H5.nx.toNat H5 hv (cellsOfBytes us) := hlb5.reads (by omega)
  refine W.mono (Q := RMid N hv p hb B mb vs bs ts) ?_ (fun e a' H' hmid => ?_)
  rotate_left
  · obtain ⟨t', ds'⟩ := a'
    obtain ⟨rfl, hd, hpr, us', uss', f1, f2, f3, f4, f5, f6, f7, f8⟩ := hmid
    have hd : ds' = [] := hd
    subst hd
    exact fin hpr f1 f2 f3 f4 f5 f6 f7 f8
  obtain ⟨lp5, ap5⟩ := rp5.at
  refine W.seq (W.region ?_)
  have pres0 : ∀ {tt : PT AVal}, Pres [0, 1, 4, 5, 16, 17, 18] ts tt → Pres [0, 1, 4, 5, 16, 17, 18] ts tt := fun h => h
  simp (maxDischargeDepth := 9) only [auW, auC, auT, lget, BEq.rfl, beq_self_eq_true, decide_true, decide_false, reduceCtorEq, Nat.reduceLT, Nat.reduceEqDiff, ↓reduceIte, g4r23, s17, lp5]
  by_cases hz : 0 < uss.length
  rotate_left
  · simp only [hz, decide_false]
    simp (maxDischargeDepth := 9) only [auW, auC, auT, lget, BEq.rfl, beq_self_eq_true, decide_true, decide_false, reduceCtorEq, Nat.reduceLT, Nat.reduceEqDiff, ↓reduceIte]
    refine W.cond_false (by simp [AOpnd.ev, tget_puts]) (turn_head hbN hN5 hlb5 hp5 hu huu hul hpl hpt s4 s5 s16 ?_)
    (try dsimp only); repeat (first | refine Pres.put ?_ (by decide) (by decide) | exact Pres.refl _ _)
  simp only [hz, decide_true]
  obtain ⟨b0, o0, v0, ip1, ip2, ip3⟩ := ap5 0 hz
  simp (maxDischargeDepth := 9) only [auW, auC, auT, lget, BEq.rfl, beq_self_eq_true, decide_true, decide_false, reduceCtorEq, Nat.reduceLT, Nat.reduceEqDiff, ↓reduceIte, s17, ip1, ip2, ip3.fLen, cells_length]
  by_cases hz0 : 0 < uss[0].length
  rotate_left
  · simp only [hz0, decide_false]
    simp (maxDischargeDepth := 9) only [auW, auC, auT, lget, BEq.rfl, beq_self_eq_true, decide_true, decide_false, reduceCtorEq, Nat.reduceLT, Nat.reduceEqDiff, ↓reduceIte]
    refine W.cond_false (by simp [AOpnd.ev, tget_puts]) (turn_head hbN hN5 hlb5 hp5 hu huu hul hpl hpt s4 s5 s16 ?_)
    (try dsimp only); repeat (first | refine Pres.put ?_ (by decide) (by decide) | exact Pres.refl _ _)
  simp only [hz0, decide_true]
  simp (maxDischargeDepth := 9) only [auW, auC, auT, lget, BEq.rfl, beq_self_eq_true, decide_true, decide_false, reduceCtorEq, Nat.reduceLT, Nat.reduceEqDiff, ↓reduceIte, s4, rem_ok at' (n := 2) (by decide)]
  by_cases heven : Int.tmod at' ((2 : Nat) : Int) = Int.ofNat 0
  rotate_left
  · have heven' : ¬ at'.tmod 2 = 0 := by simpa using heven
    refine W.cond_false (by simp [AOpnd.ev, tget_puts, heven']) (turn_head hbN hN5 hlb5 hp5 hu huu hul hpl hpt s4 s5 s16 ?_)
    (try dsimp only); repeat (first | refine Pres.put ?_ (by decide) (by decide) | exact Pres.refl _ _)
  have heven' : at'.tmod 2 = 0 := by simpa using heven
  refine W.cond_true (by simp [AOpnd.ev, tget_puts, heven']) (turn_data hbN hN5 hlb5 hp5 hu huu hul hpl hpt s4 s5 s17 ?_ hz hz0)
  (try dsimp only); repeat (first | refine Pres.put ?_ (by decide) (by decide) | exact Pres.refl _ _)

set_option maxHeartbeats 1000000 in
theorem decodes_ok (hst : ∀ {n : Nat} {H : AHeap} {m v : AVal} {b : Pos} {us : List Nat}, LentB H m us b → b.toNat < H.nx.toNat → Reads n H v (cellsOfBytes us) → (∀ u ∈ us, u < 256) → us.length ≤ 16777216 → CallS E 22 [m, v] H (.bool true) H)
    {N : Nat} {H : AHeap} {hv dv : AVal} {us : List Nat} {uss : List (List Nat)} (gen n at' : Int) (xn : Nat) (hfirst : CallS E 6 [] H (.bool true) H) (hh : Reads N H hv (cellsOfBytes us)) (hd : Lists N H dv uss) (hN : N ≤ H.nx.toNat) (hu : ∀ u ∈ us, u < 256) (huu : ∀ us ∈ uss, ∀ u ∈ us, u < 256) (hul : us.length ≤ 16777216) (hpl : uss.length ≤ 1073741824) (hpt : (uss.flatMap id).length ≤ 16777216) :
    ∃ H', CallS E 4 [.int .i64 gen, .int .i64 n, hv, dv, .int .i64 at', .int .u8 (.ofNat xn)] H (.bool true) H' := by
  suffices h : ∃ v H', CallS E 4 [.int .i64 gen, .int .i64 n, hv, dv, .int .i64 at', .int .u8 (.ofNat xn)] H v H' ∧ v = .bool true by obtain ⟨v, H', h, rfl⟩ := h; exact ⟨H', h⟩
  refine CallS.by (R := fun v H' => v = .bool true) (t0 := tput (tput (tput (tput (tput (tput .l (some (Pos.ofNat 0)) (.int .i64 gen)) (some (Pos.ofNat 1)) (.int .i64 n)) (some (Pos.ofNat 2)) hv) (some (Pos.ofNat 3)) dv) (some (Pos.ofNat 4)) (.int .i64 at')) (some (Pos.ofNat 5)) (.int .u8 (.ofNat xn))) (C.s _ rfl) rfl C.f4 rfl ?_
  refine W.seq (W.region ?_)
  simp (maxDischargeDepth := 9) only [auW, auC, auT, lget, BEq.rfl, beq_self_eq_true, decide_true, decide_false, reduceCtorEq, Nat.reduceLT, Nat.reduceEqDiff, ↓reduceIte, g4r0]
  refine W.seq (W.region ?_)
  simp (maxDischargeDepth := 9) only [auW, auC, auT, lget, BEq.rfl, beq_self_eq_true, decide_true, decide_false, reduceCtorEq, Nat.reduceLT, Nat.reduceEqDiff, ↓reduceIte, g4r1]
  refine wo_callE (hfirst) (by simp only [auT, Nat.reduceLT, Nat.reduceEqDiff, ↓reduceIte]) ?_
  simp (maxDischargeDepth := 9) only [auW, auC, auT, lget, BEq.rfl, beq_self_eq_true, decide_true, decide_false, reduceCtorEq, Nat.reduceLT, Nat.reduceEqDiff, ↓reduceIte]
  refine W.seq (W.region ?_)
  simp (maxDischargeDepth := 9) only [auW, auC, auT, lget, BEq.rfl, beq_self_eq_true, decide_true, decide_false, reduceCtorEq, Nat.reduceLT, Nat.reduceEqDiff, ↓reduceIte, g4r2, hh.fLen, cells_length]
  refine W.seq (W.seq (W.region ?_))
  simp (maxDischargeDepth := 9) only [auW, auC, auT, lget, BEq.rfl, beq_self_eq_true, decide_true, decide_false, reduceCtorEq, Nat.reduceLT, Nat.reduceEqDiff, ↓reduceIte, g4r3]
  obtain ⟨ld, ad⟩ := hd.at
  generalize hts : tput _ (some (Pos.ofNat 15)) _ = ts
  have s0 : tget ts (Pos.ofNat 0) = .int .i64 gen := by rw [← hts]; simp only [tget_puts, Nat.reduceLT, Nat.reduceEqDiff, ↓reduceIte]
  have s1 : tget ts (Pos.ofNat 1) = .int .i64 n := by rw [← hts]; simp only [tget_puts, Nat.reduceLT, Nat.reduceEqDiff, ↓reduceIte]
  have s2 : tget ts (Pos.ofNat 2) = hv := by rw [← hts]; simp only [tget_puts, Nat.reduceLT, Nat.reduceEqDiff, ↓reduceIte]
  have s3 : tget ts (Pos.ofNat 3) = dv := by rw [← hts]; simp only [tget_puts, Nat.reduceLT, Nat.reduceEqDiff, ↓reduceIte]
  have s4 : tget ts (Pos.ofNat 4) = .int .i64 at' := by rw [← hts]; simp only [tget_puts, Nat.reduceLT, Nat.reduceEqDiff, ↓reduceIte]
  have s5 : tget ts (Pos.ofNat 5) = .int .u8 (.ofNat xn) := by rw [← hts]; simp only [tget_puts, Nat.reduceLT, Nat.reduceEqDiff, ↓reduceIte]
  have s13 : tget ts (Pos.ofNat 13) = .bool true := by rw [← hts]; simp only [tget_puts, Nat.reduceLT, Nat.reduceEqDiff, ↓reduceIte]
  have s14 : tget ts (Pos.ofNat 14) = .int .i64 (.ofNat us.length) := by rw [← hts]; simp only [tget_puts, Nat.reduceLT, Nat.reduceEqDiff, ↓reduceIte]
  have s15 : tget ts (Pos.ofNat 15) = .int .i64 (.ofNat 0) := by rw [← hts]; simp only [tget_puts, Nat.reduceLT, Nat.reduceEqDiff, ↓reduceIte]
  clear hts
  refine W.block (W.mono (W.loop_inv (Q := fun e a H' => e = .exit 0 ∧ a.ds = [] ∧ H' = H ∧ Pres [0, 1, 2, 3, 4, 5, 13] ts a.t ∧ ∃ q, tget a.t (Pos.ofNat 14) = .int .i64 (.ofNat q)) (fun k t H1 => ∃ i, H1 = H ∧ i + k = uss.length ∧ Pres [0, 1, 2, 3, 4, 5, 13] ts t ∧ tget t (Pos.ofNat 15) = .int .i64 (.ofNat i) ∧ tget t (Pos.ofNat 14) = .int .i64 (.ofNat (us.length + ((uss.take i).flatMap id).length))) ?_ uss.length _ H ⟨0, rfl, by omega, Pres.refl _ _, s15, by simpa using s14⟩) ?_)
  · rintro k t H1 ⟨i, rfl, hi, hpr, h15, h14⟩
    have h3 := (hpr 3 (by decide)).trans s3
    refine W.seq (W.seq (W.region ?_))
    simp (maxDischargeDepth := 9) only [auW, auC, auT, lget, BEq.rfl, beq_self_eq_true, decide_true, decide_false, reduceCtorEq, Nat.reduceLT, Nat.reduceEqDiff, ↓reduceIte, g4r4, h3, h15, ld]
    refine W.cond_if (p := i < uss.length) (by simp [AOpnd.ev, tget_puts]) (fun hlt => W.skip ?_) (fun hge => W.exit ?_)
    rotate_left
    · refine ⟨by trivial, by trivial, by trivial, ?_, us.length + ((uss.take i).flatMap id).length, ?_⟩
      · (try dsimp only); repeat (refine Pres.put ?_ (by decide) (by decide))
        exact hpr
      · simp only [tget_puts, Nat.reduceLT, Nat.reduceEqDiff, ↓reduceIte, h14]
    simp only [andThen]
    obtain ⟨b, o, vi, e1, e2, e3⟩ := ad i hlt
    have hs1 := sum_take hlt
    have hs2 := sum_le uss (i + 1)
    refine W.seq (W.block (W.region ?_))
    simp (maxDischargeDepth := 9) only [auW, auC, auT, lget, BEq.rfl, beq_self_eq_true, decide_true, decide_false, reduceCtorEq, Nat.reduceLT, Nat.reduceEqDiff, ↓reduceIte, g4r5, h3, h14, h15, e1, e2, e3.fLen, cells_length, b_add (show us.length + ((uss.take i).flatMap id).length + uss[i].length ≤ 9223372036854775807 by omega)]
    simp only [andThen, inBlock]
    refine W.region ?_
    simp (maxDischargeDepth := 9) only [auW, auC, auT, lget, BEq.rfl, beq_self_eq_true, decide_true, decide_false, reduceCtorEq, Nat.reduceLT, Nat.reduceEqDiff, ↓reduceIte, g4r6, h15, b_add (show i + 1 ≤ 9223372036854775807 by omega)]
    refine ⟨by trivial, k - 1, by omega, i + 1, by trivial, by omega, ?_, ?_, ?_⟩
    · (try dsimp only); repeat (refine Pres.put ?_ (by decide) (by decide))
      exact hpr
    · simp only [tget_puts, Nat.reduceLT, Nat.reduceEqDiff, ↓reduceIte]
    · simp only [tget_puts, Nat.reduceLT, Nat.reduceEqDiff, ↓reduceIte]
      rw [hs1, Nat.add_assoc]
  rintro e ⟨t, ds⟩ H' ⟨rfl, hds, rfl, hpr, q, h14⟩
  have hds : ds = [] := hds
  subst hds
  have hpr : Pres [0, 1, 2, 3, 4, 5, 13] ts t := hpr
  have h14 : tget t (Pos.ofNat 14) = .int .i64 (.ofNat q) := h14
  have t0 := (hpr 0 (by decide)).trans s0
  have t1 := (hpr 1 (by decide)).trans s1
  have t2 := (hpr 2 (by decide)).trans s2
  have t3 := (hpr 3 (by decide)).trans s3
  have t4 := (hpr 4 (by decide)).trans s4
  have t5 := (hpr 5 (by decide)).trans s5
  have t13 := (hpr 13 (by decide)).trans s13
  simp only [inBlock, andThen, beq_t]
  have tooLong : ∀ {t : PT AVal} {K : AAct → AHeap → Prop}, tget t (Pos.ofNat 13) = .bool true → W E (.seq (.region g4r9) .ret) none ⟨t, []⟩ H' (andThen K (fun e a' H' => (e = .normal ∨ e = .ret) ∧ a'.ds = [] ∧ ∃ v, (match resultA a'.t H' g4.results with | some [v] => some v | some l => some (.tup l) | none => none) = some v ∧ v = .bool true)) := by
    intro t K h11
    refine W.seq (W.region ?_)
    simp (maxDischargeDepth := 9) only [auW, auC, auT, lget, BEq.rfl, beq_self_eq_true, decide_true, decide_false, reduceCtorEq, Nat.reduceLT, Nat.reduceEqDiff, ↓reduceIte, g4r9, h11]
    refine W.ret ⟨.inr rfl, rfl, .bool true, ?_, rfl⟩
    simp only [resultA, g4, tget_puts, Nat.reduceLT, Nat.reduceEqDiff, ↓reduceIte]
  refine W.seq (W.seq (W.region ?_))
  simp (maxDischargeDepth := 9) only [auW, auC, auT, lget, BEq.rfl, beq_self_eq_true, decide_true, decide_false, reduceCtorEq, Nat.reduceLT, Nat.reduceEqDiff, ↓reduceIte, g4r8, t13, t3, ld]
  by_cases hlong : 65536 < uss.length
  · simp only [hlong, decide_true]
    simp (maxDischargeDepth := 9) only [auW, auC, auT, lget, BEq.rfl, beq_self_eq_true, decide_true, decide_false, reduceCtorEq, Nat.reduceLT, Nat.reduceEqDiff, ↓reduceIte]
    exact W.cond_true (by simp [AOpnd.ev, tget_puts]) (tooLong (by simp only [tget_puts, Nat.reduceLT, Nat.reduceEqDiff, ↓reduceIte, t13]))
  simp only [hlong, decide_false]
  simp (maxDischargeDepth := 9) only [auW, auC, auT, lget, BEq.rfl, beq_self_eq_true, decide_true, decide_false, reduceCtorEq, Nat.reduceLT, Nat.reduceEqDiff, ↓reduceIte, h14]
  by_cases hlong2 : 1048576 < q
  · exact W.cond_true (by simp [AOpnd.ev, tget_puts, hlong2]) (tooLong (by simp only [tget_puts, Nat.reduceLT, Nat.reduceEqDiff, ↓reduceIte, t13]))
  refine W.cond_false (by simp [AOpnd.ev, tget_puts, hlong2]) (W.skip ?_)
  simp only [andThen]
  obtain ⟨v1, H1, hb, c1, l1, lo1, hi1, k1⟩ := lent_ok C hh hN (by omega)
  have hd1 := hd.keep k1 hN
  obtain ⟨p, H2, B, mb, vs, bs, c2, l2, k2⟩ := lentLists_ok C hd1 (Nat.le_trans hN k1.nx) hpl hpt
  refine W.seq (W.region ?_)
  simp (maxDischargeDepth := 9) only [auW, auC, auT, lget, BEq.rfl, beq_self_eq_true, decide_true, decide_false, reduceCtorEq, Nat.reduceLT, Nat.reduceEqDiff, ↓reduceIte, g4r10, t2]
  refine wo_callE (c1) (by simp only [auT, Nat.reduceLT, Nat.reduceEqDiff, ↓reduceIte, t2]) ?_
  simp (maxDischargeDepth := 9) only [auW, auC, auT, lget, BEq.rfl, beq_self_eq_true, decide_true, decide_false, reduceCtorEq, Nat.reduceLT, Nat.reduceEqDiff, ↓reduceIte]
  refine W.seq (W.region ?_)
  simp (maxDischargeDepth := 9) only [auW, auC, auT, lget, BEq.rfl, beq_self_eq_true, decide_true, decide_false, reduceCtorEq, Nat.reduceLT, Nat.reduceEqDiff, ↓reduceIte, g4r11, t3]
  refine wo_callE (c2) (by simp only [auT, Nat.reduceLT, Nat.reduceEqDiff, ↓reduceIte, t3]) ?_
  simp (maxDischargeDepth := 9) only [auW, auC, auT, lget, BEq.rfl, beq_self_eq_true, decide_true, decide_false, reduceCtorEq, Nat.reduceLT, Nat.reduceEqDiff, ↓reduceIte]
  refine W.seq (W.seq (W.region ?_))
  simp (maxDischargeDepth := 9) only [auW, auC, auT, lget, BEq.rfl, beq_self_eq_true, decide_true, decide_false, reduceCtorEq, Nat.reduceLT, Nat.reduceEqDiff, ↓reduceIte, g4r12]
  refine W.block (W.mono (decodes_loop C hst gen n at' xn (N := H1.nx.toNat) 2 _ H2 ⟨0, v1, p, us, uss, hb, B, mb, vs, bs, by omega, ?_, ?_, ?_, ?_, ?_, ?_, ?_, l1.of_get (k2.get _ hi1), hi1, k2.nx, l2, hu, huu, hul, hpl, hpt⟩) ?_)
  · simp only [tget_puts, Nat.reduceLT, Nat.reduceEqDiff, ↓reduceIte, t0]
  · simp only [tget_puts, Nat.reduceLT, Nat.reduceEqDiff, ↓reduceIte, t1]
  · simp only [tget_puts, Nat.reduceLT, Nat.reduceEqDiff, ↓reduceIte, t4]
  · simp only [tget_puts, Nat.reduceLT, Nat.reduceEqDiff, ↓reduceIte, t5]
  · simp only [tget_puts, Nat.reduceLT, Nat.reduceEqDiff, ↓reduceIte]
  · simp only [tget_puts, Nat.reduceLT, Nat.reduceEqDiff, ↓reduceIte]
  · simp only [tget_puts, Nat.reduceLT, Nat.reduceEqDiff, ↓reduceIte]
  rintro e ⟨t, ds⟩ H3 ⟨rfl, hds⟩
  have hds : ds = [] := hds
  subst hds
  simp only [inBlock, andThen, beq_t]
  refine W.seq (W.region ?_)
  simp (maxDischargeDepth := 9) only [auW, auC, auT, lget, BEq.rfl, beq_self_eq_true, decide_true, decide_false, reduceCtorEq, Nat.reduceLT, Nat.reduceEqDiff, ↓reduceIte, g4r29]
  refine W.ret ⟨.inr rfl, rfl, .bool true, ?_, rfl⟩
  simp only [resultA, g4, tget_puts, Nat.reduceLT, Nat.reduceEqDiff, ↓reduceIte]
end
end Go.Am
end

section
namespace Go.Am
open Go

abbrev stayRest : ACode := .seq (.region g22r4) .ret
section
variable {E : Env} (C : CodeOk4 E)
include C
theorem stay_rest {n : Nat} {H : AHeap} {m v : AVal} {b : Pos} {us : List Nat} (hm : LentB H m us b) (hb : b.toNat < H.nx.toNat) (hv : Reads n H v (cellsOfBytes us)) (hu : ∀ u ∈ us, u < 256) (hul : us.length ≤ 16777216) (t : PT AVal) (h0 : tget t (Pos.ofNat 0) = m) (h1 : tget t (Pos.ofNat 1) = v) (h5 : tget t (Pos.ofNat 5) = .int .i64 (.ofNat us.length)) :
    ∃ k aa', ev E k stayRest none ⟨t, []⟩ H = some (.ret, aa', H) ∧ aa'.ds = [] ∧ tget aa'.t (Pos.ofNat 4) = .bool true := by
  suffices h : W E stayRest none ⟨t, []⟩ H (fun e a' H' => e = .ret ∧ a'.ds = [] ∧ H' = H ∧ tget a'.t (Pos.ofNat 4) = .bool true) by
    obtain ⟨e, a', H', ⟨n0, hev⟩, rfl, hd, rfl, h4⟩ := h
    exact ⟨n0, a', hev n0 (Nat.le_refl _), hd, h4⟩
  have hc := same_bytes C.toCodeOk ((hm.reads hb).mono (Nat.le_max_left _ n)) (hv.mono (Nat.le_max_right H.nx.toNat _)) hu
  obtain ⟨hmv, hcell⟩ := hm
  have hsl : ∀ {t : PT AVal} {p : Nat}, tget t (Pos.ofNat p) = .int .i64 (.ofNat (us.length + 2)) → sliceA t (.sl 1) m none (some (.t (Pos.ofNat p))) none = some (.sl b 0 (us.length + 2) (us.length + 2) 1) := fun h => by rw [hmv]; exact slice_pre (by simpa [AOpnd.ev] using h) (by omega)
  have i0 : fIdxS 1 (.sl b 0 (us.length + 2) (us.length + 2) 1) (.int .i64 (.ofNat us.length)) = some (.ptr b us.length) := by
    simp only [fIdxS, natOf, blt_t (show us.length < us.length + 2 by omega), off1, Nat.zero_add]
  have i1 : fIdxS 1 (.sl b 0 (us.length + 2) (us.length + 2) 1) (.int .i64 (.ofNat (us.length + 1))) = some (.ptr b (us.length + 1)) := by
    simp only [fIdxS, natOf, blt_t (show us.length + 1 < us.length + 2 by omega), off1, Nat.zero_add]
  have lg : ∀ (l m : List AVal) (i : Nat), lget (l ++ m) (l.length + i) = lget m i := by
    intro l m i
    induction l with
    | nil => simp
    | cons a l ih => rw [show (a :: l).length + i = (l.length + i) + 1 by simp; omega]; simpa [lget] using ih
  have d0 : hload H b us.length = some (.int .u8 (.ofNat 161)) := by
    unfold hload
    rw [hcell]
    have := lg (cellsOfBytes us) marks 0
    rw [cells_length] at this
    exact this
  have d1 : hload H b (us.length + 1) = some (.int .u8 (.ofNat 178)) := by
    unfold hload
    rw [hcell]
    have := lg (cellsOfBytes us) marks 1
    rw [cells_length] at this
    exact this
  have q1 : binOpA .eql (.int .u8 (.ofNat 161)) (.int .u8 (.ofNat 161)) = some (.bool true) := rfl
  have q2 : binOpA .eql (.int .u8 (.ofNat 178)) (.int .u8 (.ofNat 178)) = some (.bool true) := rfl
  refine W.seq (W.region ?_)
  simp (maxDischargeDepth := 9) only [auW, auC, auT, lget, BEq.rfl, beq_self_eq_true, decide_true, decide_false, reduceCtorEq, Nat.reduceLT, Nat.reduceEqDiff, ↓reduceIte, g22r4, h0, h1]
  refine wo_callE (hc) (by simp only [auT, Nat.reduceLT, Nat.reduceEqDiff, ↓reduceIte]) ?_
  simp (maxDischargeDepth := 9) only [auW, auC, auT, lget, BEq.rfl, beq_self_eq_true, decide_true, decide_false, reduceCtorEq, Nat.reduceLT, Nat.reduceEqDiff, ↓reduceIte, h0, h5, b_add (show us.length + 2 ≤ 9223372036854775807 by omega), b_add (show us.length + 1 ≤ 9223372036854775807 by omega), hsl, i0, i1, d0, d1, q1, q2]
  refine W.ret ⟨rfl, rfl, rfl, ?_⟩
  simp only [tget_puts, Nat.reduceLT, Nat.reduceEqDiff, ↓reduceIte]
end
end Go.Am
end
