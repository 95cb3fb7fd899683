/- Part of the proof: AmD3, AmD4. -/
import Derived.Test.YtkajhokkaadiiaaGreatDoorFn10
set_option linter.unusedSimpArgs false
set_option linter.unusedVariables false
section
namespace Go.Am
open Go

def marks : List AVal := [.int .u8 (.ofNat 161), .int .u8 (.ofNat 178)]
/-- Lent bytes: two marks behind them. -/
def LentB (H : AHeap) (v : AVal) (us : List Nat) (b : Pos) : Prop := v = .sl b 0 us.length (us.length + 2) 1 ∧ PT.get b H.t = some (.cells (cellsOfBytes us ++ marks) true false)
theorem LentB.reads {H : AHeap} {v : AVal} {us : List Nat} {b : Pos} (h : LentB H v us b) {n : Nat} (hb : b.toNat < n) : Reads n H v (cellsOfBytes us) := by
  obtain ⟨rfl, h⟩ := h
  refine .inr ⟨b, 0, us.length + 2, 1, by rw [cells_length], ?_, hb, .inr rfl, by rw [cells_length]; omega⟩
  unfold hloadN
  rw [h]
  simp only
  rw [lsub_of (by simp)]
  simp
theorem LentB.of_get {H H' : AHeap} {v : AVal} {us : List Nat} {b : Pos} (h : LentB H v us b) (e : PT.get b H'.t = PT.get b H.t) : LentB H' v us b := ⟨h.1, by rw [e]; exact h.2⟩
theorem Reads.upd {n : Nat} {H : AHeap} {v : AVal} {l : List AVal} (h : Reads n H v l) {p : Pos} {x : AObj} (hp : OffB v p) : Reads n (H.upd p x) v l := by
  rcases h with h | ⟨b, o, cap, sz, e, h, hb⟩
  · exact .inl h
  · refine .inr ⟨b, o, cap, sz, e, ?_, hb⟩
    unfold hloadN at h ⊢
    rw [show PT.get b (H.upd p x).t = PT.get b H.t from PT.get_set_other _ _ _ _ (fun e' => by subst e'; exact hp _ _ _ _ e)]
    exact h
theorem append_at {H : AHeap} {b : Pos} {l rest new : List AVal} {cap by' : Nat} {x : AVal} (hg : PT.get b H.t = some (.cells (l ++ rest) false false)) (hcap : l.length + rest.length = cap) (hx : srcCells H 1 x = some (new.length, new)) (hs : allScal new = true) (hc : l.length + new.length ≤ cap) :
    appendA H 1 by' (.sl b 0 l.length cap 0) x = some (.sl b 0 (l ++ new).length cap 0, H.upd b (.cells (l ++ new ++ rest.drop new.length) false false)) := by
  unfold appendA
  rw [hx]
  have e1 : Nat.ble (Nat.add l.length new.length) cap = true := ble_t hc
  have e2 : hstoreN H b (Nat.add 0 (Nat.mul l.length 1)) new = some (H.upd b (.cells (l ++ new ++ rest.drop new.length) false false)) := by
    unfold hstoreN
    rw [hg, off1]
    simp only [hs]
    rw [lput_of _ _ _ (by simp; omega)]
    have : List.drop (l.length + new.length) l = [] := List.drop_eq_nil_of_le (by omega)
    simp [List.drop_append, this]
  simp only [e1, e2, List.length_append]
  rfl
theorem append_full' {n : Nat} {H : AHeap} {v x : AVal} {l new : List AVal} {cap by' : Nat} (h : Room n H v l cap) (hcap : l.length = cap) (hx : srcCells H 1 x = some (new.length, new)) (h0 : 0 < new.length) (hb : (l.length + new.length) * 2 * by' ≤ 281474976710656) :
    appendA H 1 by' v x = some (.sl H.nx 0 (l.length + new.length) (l.length + new.length) 1, (H.new (.cells (l ++ new) true false)).2) := by
  obtain ⟨b, rest, rfl, hg, hc, h1, h2⟩ := h
  unfold appendA
  rw [hx]
  have e1 : Nat.ble (Nat.add l.length new.length) cap = false := ble_f (by rw [nadd]; omega)
  have e2 : hloadN H b 0 (Nat.mul l.length 1) = some l := by
    unfold hloadN
    rw [hg]
    simp only [mul1]
    rw [lsub_of (by simp)]
    simp
  have e3 : Nat.ble (Nat.mul (Nat.mul (Nat.add l.length new.length) 2) by') 281474976710656 = true := ble_t hb
  simp only [e1, e2, e3]
  rfl
theorem slice_pre {t : PT AVal} {Y : AOpnd} {b : Pos} {len cap k : Nat} (hY : Y.ev t = .int .i64 (.ofNat k)) (hk : k ≤ cap) : sliceA t (.sl 1) (.sl b 0 len cap 1) none (some Y) none = some (.sl b 0 k cap 1) := by
  have e1 : Nat.ble k cap = true := ble_t hk
  have e2 : Nat.ble 0 k = true := ble_t (Nat.zero_le _)
  simp only [sliceA, boundOf, hY, natOf, e1, e2, nsub]
  rfl
theorem fill2 {z : AVal} {t : PT AVal} {a b : AVal} (ha : isScal a = true) (hb : isScal b = true) : fillA [z, z] t [(0, 1, .c a), (1, 1, .c b)] = some [a, b] := by
  simp [fillA, AOpnd.ev, vcells_scal ha, vcells_scal hb, lput, lover]

section
variable {E : Env} (C : CodeOk4 E)
include C

theorem bytes_ok {n : Nat} {H : AHeap} {x : AVal} {us : List Nat} (hx : Reads n H x (cellsOfBytes us)) (hn : n ≤ H.nx.toNat) (hl : us.length ≤ 1073741824) :
    ∃ v H', CallS E 18 [x] H v H' ∧ Room H.nx.toNat H' v (cellsOfBytes us) us.length ∧ Keep H.nx.toNat H H' := by
  refine CallS.by (R := fun v H' => Room H.nx.toNat H' v (cellsOfBytes us) us.length ∧ Keep H.nx.toNat H H') (t0 := tput .l (some (Pos.ofNat 0)) x) (C.s _ rfl) rfl C.f18 rfl ?_
  refine W.seq (W.region ?_)
  simp (maxDischargeDepth := 9) only [auW, auC, auT, lget, BEq.rfl, beq_self_eq_true, decide_true, decide_false, reduceCtorEq, Nat.reduceLT, Nat.reduceEqDiff, ↓reduceIte, g18r0]
  refine W.seq (W.region ?_)
  simp (maxDischargeDepth := 9) only [auW, auC, auT, lget, BEq.rfl, beq_self_eq_true, decide_true, decide_false, reduceCtorEq, Nat.reduceLT, Nat.reduceEqDiff, ↓reduceIte, g18r1, hx.fLen, cells_length]
  refine wo_wr rfl (fun _ => rfl) (write_mkSlice (n := 0) (c := us.length) (q := .i64) (q' := .i64) rfl (by simp only [auT, Nat.reduceLT, Nat.reduceEqDiff, ↓reduceIte]) (by omega) (by omega) (by omega)) ?_
  simp (maxDischargeDepth := 9) only [auW, auC, auT, lget, BEq.rfl, beq_self_eq_true, decide_true, decide_false, reduceCtorEq, Nat.reduceLT, Nat.reduceEqDiff, ↓reduceIte]
  have hk : Keep H.nx.toNat H (H.new (.cells (repl [.int .u8 (.ofNat 0)] us.length) false false)).2 := keep_new
  have hroom : Room H.nx.toNat (H.new (.cells (repl [.int .u8 (.ofNat 0)] us.length) false false)).2 (.sl H.nx 0 0 us.length 0) [] us.length := ⟨H.nx, repl [.int .u8 (.ofNat 0)] us.length, by simp, by simpa using get_new, by simp [repl1_length], Nat.le_refl _, by rw [nx_new]; omega⟩
  obtain ⟨v', H', e3, r3, k3⟩ := append_rooms (by' := 1) hroom (hx.keep hk hn).src (scal_cells _) (by simp [cells_length])
  refine wo_appendE e3 (by simp only [auT, Nat.reduceLT, Nat.reduceEqDiff, ↓reduceIte]) (by simp only [auT, Nat.reduceLT, Nat.reduceEqDiff, ↓reduceIte]) ?_
  simp (maxDischargeDepth := 9) only [auW, auC, auT, lget, BEq.rfl, beq_self_eq_true, decide_true, decide_false, reduceCtorEq, Nat.reduceLT, Nat.reduceEqDiff, ↓reduceIte]
  refine W.ret ⟨.inr rfl, rfl, v', ?_, by simpa using r3, hk.trans k3⟩
  simp only [resultA, g18, tget_puts, Nat.reduceLT, Nat.reduceEqDiff, ↓reduceIte]

theorem lent_ok {n : Nat} {H : AHeap} {x : AVal} {us : List Nat} (hx : Reads n H x (cellsOfBytes us)) (hn : n ≤ H.nx.toNat) (hl : us.length ≤ 1073741824) :
    ∃ v H' b, CallS E 16 [x] H v H' ∧ LentB H' v us b ∧ H.nx.toNat ≤ b.toNat ∧ b.toNat < H'.nx.toNat ∧ Keep H.nx.toNat H H' := by
  suffices h : ∃ v H', CallS E 16 [x] H v H' ∧ ∃ b, LentB H' v us b ∧ H.nx.toNat ≤ b.toNat ∧ b.toNat < H'.nx.toNat ∧ Keep H.nx.toNat H H' by
    obtain ⟨v, H', h1, b, h2⟩ := h
    exact ⟨v, H', b, h1, h2⟩
  obtain ⟨v1, H1, c1, r1, k1⟩ := bytes_ok C hx hn hl
  refine CallS.by (R := fun v H' => ∃ b, LentB H' v us b ∧ H.nx.toNat ≤ b.toNat ∧ b.toNat < H'.nx.toNat ∧ Keep H.nx.toNat H H') (t0 := tput .l (some (Pos.ofNat 0)) x) (C.s _ rfl) rfl C.f16 rfl ?_
  refine W.seq (W.region ?_)
  simp (maxDischargeDepth := 9) only [auW, auC, auT, lget, BEq.rfl, beq_self_eq_true, decide_true, decide_false, reduceCtorEq, Nat.reduceLT, Nat.reduceEqDiff, ↓reduceIte, g16r0]
  refine W.seq (W.region ?_)
  simp (maxDischargeDepth := 9) only [auW, auC, auT, lget, BEq.rfl, beq_self_eq_true, decide_true, decide_false, reduceCtorEq, Nat.reduceLT, Nat.reduceEqDiff, ↓reduceIte, g16r1]
  refine wo_callE (c1) (by simp only [auT, Nat.reduceLT, Nat.reduceEqDiff, ↓reduceIte]) ?_
  refine wo_buildSlice (fill2 rfl rfl) ?_
  have k2 : Keep H1.nx.toNat H1 (H1.new (.cells marks false false)).2 := keep_new
  have e3 := append_full' (by' := 1) (new := marks) (r1.keep k2) (cells_length us) src_new (by simp [marks]) (by rw [cells_length]; simp [marks]; omega)
  rw [cells_length] at e3
  have k3 : Keep (H1.new (.cells marks false false)).2.nx.toNat (H1.new (.cells marks false false)).2 ((H1.new (.cells marks false false)).2.new (.cells (cellsOfBytes us ++ marks) true false)).2 := keep_new
  have g3 : PT.get (H1.new (.cells marks false false)).2.nx ((H1.new (.cells marks false false)).2.new (.cells (cellsOfBytes us ++ marks) true false)).2.t = _ := get_new
  have n3 : ((H1.new (.cells marks false false)).2.new (.cells (cellsOfBytes us ++ marks) true false)).2.nx.toNat = (H1.new (.cells marks false false)).2.nx.toNat + 1 := nx_new
  refine wo_appendE e3 (by simp only [auT, Nat.reduceLT, Nat.reduceEqDiff, ↓reduceIte]) (by simp only [auT, Nat.reduceLT, Nat.reduceEqDiff, ↓reduceIte]; rfl) ?_
  generalize (H1.new (.cells marks false false)).2 = H2 at *
  generalize (H2.new (.cells (cellsOfBytes us ++ marks) true false)).2 = H3 at *
  simp (maxDischargeDepth := 9) only [auW, auC, auT, lget, BEq.rfl, beq_self_eq_true, decide_true, decide_false, reduceCtorEq, Nat.reduceLT, Nat.reduceEqDiff, ↓reduceIte]
  have kk : Keep H.nx.toNat H H3 := k1.trans ((k2.mono k1.nx).trans (k3.mono (Nat.le_trans k1.nx k2.nx)))
  have hx3 := hx.keep kk hn
  refine W.seq (W.region ?_)
  have hsl : ∀ {t : PT AVal}, tget t (Pos.ofNat 10) = .int .i64 (.ofNat us.length) → sliceA t (.sl 1) (.sl H2.nx 0 (us.length + marks.length) (us.length + marks.length) 1) none (some (.t (Pos.ofNat 10))) none = some (.sl H2.nx 0 us.length (us.length + marks.length) 1) := fun h => slice_pre (by simpa [AOpnd.ev] using h) (by omega)
  simp (maxDischargeDepth := 9) only [auW, auC, auT, lget, BEq.rfl, beq_self_eq_true, decide_true, decide_false, reduceCtorEq, Nat.reduceLT, Nat.reduceEqDiff, ↓reduceIte, g16r2, hx3.fLen, cells_length, hsl]
  refine W.ret ⟨.inr rfl, rfl, .sl H2.nx 0 us.length (us.length + marks.length) 1, ?_, H2.nx, ⟨rfl, g3⟩, Nat.le_trans k1.nx k2.nx, by omega, kk⟩
  simp only [resultA, g16, tget_puts, Nat.reduceLT, Nat.reduceEqDiff, ↓reduceIte]

/-- ByteLists: a copy of all. -/
theorem byteLists_ok {n : Nat} {H : AHeap} {x : AVal} {uss : List (List Nat)} (hx : Lists n H x uss) (hn : n ≤ H.nx.toNat) (hl : uss.length ≤ 1073741824) (ht : (uss.flatMap id).length ≤ 16777216) :
    ∃ v H', CallS E 19 [x] H v H' ∧ Lists H'.nx.toNat H' v uss ∧ Keep H.nx.toNat H H' := by
  refine CallS.by (R := fun v H' => Lists H'.nx.toNat H' v uss ∧ Keep H.nx.toNat H H') (t0 := tput .l (some (Pos.ofNat 0)) x) (C.s _ rfl) rfl C.f19 rfl ?_
  obtain ⟨lx, ax⟩ := hx.at
  refine W.seq (W.region ?_)
  simp (maxDischargeDepth := 9) only [auW, auC, auT, lget, BEq.rfl, beq_self_eq_true, decide_true, decide_false, reduceCtorEq, Nat.reduceLT, Nat.reduceEqDiff, ↓reduceIte, g19r0]
  refine W.seq (W.region ?_)
  simp (maxDischargeDepth := 9) only [auW, auC, auT, lget, BEq.rfl, beq_self_eq_true, decide_true, decide_false, reduceCtorEq, Nat.reduceLT, Nat.reduceEqDiff, ↓reduceIte, g19r1, lx]
  refine wo_wr rfl (fun _ => rfl) (write_mkSlice (n := 0) (c := uss.length) (q := .i64) (q' := .i64) rfl (by simp only [auT, Nat.reduceLT, Nat.reduceEqDiff, ↓reduceIte]) (by omega) (by omega) (by omega)) ?_
  simp (maxDischargeDepth := 9) only [auW, auC, auT, lget, BEq.rfl, beq_self_eq_true, decide_true, decide_false, reduceCtorEq, Nat.reduceLT, Nat.reduceEqDiff, ↓reduceIte]
  have hk : Keep H.nx.toNat H (H.new (.cells (repl [.snil] uss.length) false false)).2 := keep_new
  have hg : PT.get H.nx (H.new (.cells (repl [.snil] uss.length) false false)).2.t = some (.cells (repl [.snil] uss.length) false false) := get_new
  have hnx : (H.new (.cells (repl [.snil] uss.length) false false)).2.nx.toNat = H.nx.toNat + 1 := nx_new
  generalize (H.new (.cells (repl [.snil] uss.length) false false)).2 = Ha at *
  refine W.seq (W.seq (W.region ?_))
  simp (maxDischargeDepth := 9) only [auW, auC, auT, lget, BEq.rfl, beq_self_eq_true, decide_true, decide_false, reduceCtorEq, Nat.reduceLT, Nat.reduceEqDiff, ↓reduceIte, g19r2]
  refine W.block (W.mono (W.loop_inv (Q := fun e a H' => e = .exit 0 ∧ a.ds = [] ∧ Lists H'.nx.toNat H' (tget a.t (Pos.ofNat 3)) uss ∧ Keep H.nx.toNat H H') (fun k t H1 => ∃ i vs rest, i + k = uss.length ∧ tget t (Pos.ofNat 0) = x ∧ tget t (Pos.ofNat 4) = .int .i64 (.ofNat i) ∧ tget t (Pos.ofNat 3) = .sl H.nx 0 vs.length uss.length 0 ∧ vs.length = i ∧ PT.get H.nx H1.t = some (.cells (vs ++ rest) false false) ∧ vs.length + rest.length = uss.length ∧ H.nx.toNat < H1.nx.toNat ∧ Keep H.nx.toNat H H1 ∧
    ∀ (j : Nat) (v : AVal) (us : List Nat), vs[j]? = some v → uss[j]? = some us → Reads H1.nx.toNat H1 v (cellsOfBytes us) ∧ OffB v H.nx) ?_ uss.length _ Ha ⟨0, [], repl [.snil] uss.length, by omega, ?_, ?_, ?_, rfl, by simpa using hg, by simp [repl1_length], by omega, hk, fun j v us e => by simp at e⟩) ?_)
  rotate_left
  · simp only [tget_puts, Nat.reduceLT, Nat.reduceEqDiff, ↓reduceIte]
  · simp only [tget_puts, Nat.reduceLT, Nat.reduceEqDiff, ↓reduceIte]
  · simp only [tget_puts, Nat.reduceLT, Nat.reduceEqDiff, ↓reduceIte]; rfl
  · rintro e ⟨t, ds⟩ H' ⟨rfl, hd, hL, hK⟩
    have hd : ds = [] := hd
    subst hd
    simp only [inBlock, andThen, beq_t]
    refine W.seq (W.region ?_)
    simp (maxDischargeDepth := 9) only [auW, auC, auT, lget, BEq.rfl, beq_self_eq_true, decide_true, decide_false, reduceCtorEq, Nat.reduceLT, Nat.reduceEqDiff, ↓reduceIte, g19r8]
    refine W.ret ⟨.inr rfl, rfl, tget t (Pos.ofNat 3), ?_, hL, hK⟩
    simp only [resultA, g19, tget_puts, Nat.reduceLT, Nat.reduceEqDiff, ↓reduceIte]
  rintro k t H1 ⟨i, vs, rest, hi, h0, h4, h3, hvl, hB, hcap, hlt1, hK, hel⟩
  have hxk := hx.keep hK hn
  obtain ⟨lx1, ax1⟩ := hxk.at
  refine W.seq (W.seq (W.region ?_))
  simp (maxDischargeDepth := 9) only [auW, auC, auT, lget, BEq.rfl, beq_self_eq_true, decide_true, decide_false, reduceCtorEq, Nat.reduceLT, Nat.reduceEqDiff, ↓reduceIte, g19r3, h0, h4, lx1]
  refine W.cond_if (p := i < uss.length) (by simp [AOpnd.ev, tget_puts]) (fun hlt => W.skip ?_) (fun hge => W.exit ?_)
  rotate_left
  · refine ⟨by trivial, by trivial, ⟨vs, ?_, by omega, fun j v us e1 e2 => (hel j v us e1 e2).1⟩, hK⟩
    simp only [tget_puts, Nat.reduceLT, Nat.reduceEqDiff, ↓reduceIte, h3]
    refine .inr ⟨H.nx, 0, uss.length, 0, rfl, ?_, hlt1, .inl rfl, by omega⟩
    unfold hloadN
    rw [hB]
    simp only
    rw [lsub_of (by simp)]
    simp
  simp only [andThen]
  obtain ⟨b, o, vi, e1, e2, e3⟩ := ax1 i hlt
  have hnn : n ≤ H1.nx.toNat := Nat.le_trans hn hK.nx
  have hul := total_at hlt
  obtain ⟨v2, H2, c2, r2, k2⟩ := bytes_ok C e3 hnn (by omega)
  refine W.seq (W.block (W.seq (W.region ?_)))
  simp (maxDischargeDepth := 9) only [auW, auC, auT, lget, BEq.rfl, beq_self_eq_true, decide_true, decide_false, reduceCtorEq, Nat.reduceLT, Nat.reduceEqDiff, ↓reduceIte, g19r4, h0, h4, e1, e2]
  refine wo_callE (c2) (by simp only [auT, Nat.reduceLT, Nat.reduceEqDiff, ↓reduceIte]) ?_
  simp (maxDischargeDepth := 9) only [auW, auC, auT, lget, BEq.rfl, beq_self_eq_true, decide_true, decide_false, reduceCtorEq, Nat.reduceLT, Nat.reduceEqDiff, ↓reduceIte]
  refine W.region ?_
  simp (maxDischargeDepth := 9) only [auW, auC, auT, lget, BEq.rfl, beq_self_eq_true, decide_true, decide_false, reduceCtorEq, Nat.reduceLT, Nat.reduceEqDiff, ↓reduceIte, g19r5, h3]
  have hv2 : isScal v2 = true := r2.reads.scal
  refine wo_buildSlice (fill1 (v := v2) (by simp [AOpnd.ev, tget_puts]) hv2) ?_
  have k3 : Keep H2.nx.toNat H2 (H2.new (.cells [v2] false false)).2 := keep_new
  have s3 : srcCells (H2.new (.cells [v2] false false)).2 1 (.sl H2.nx 0 1 1 0) = some ([v2].length, [v2]) := src_new (l := [v2])
  have r3 := (r2.keep k3).reads
  have hB3 : PT.get H.nx (H2.new (.cells [v2] false false)).2.t = some (.cells (vs ++ rest) false false) := by
    rw [k3.get _ (by have := k2.nx; omega), k2.get _ hlt1]; exact hB
  have hoff2 : OffB v2 H.nx := by
    obtain ⟨b2, _, e, _, _, hb2, _⟩ := r2
    intro o len cap sz e'
    rw [e] at e'
    cases e'
    omega
  have hel3 : ∀ (j : Nat) (v : AVal) (us : List Nat), vs[j]? = some v → uss[j]? = some us → Reads (H2.new (.cells [v2] false false)).2.nx.toNat (H2.new (.cells [v2] false false)).2 v (cellsOfBytes us) ∧ OffB v H.nx := fun j v us g1 g2 => ⟨(((hel j v us g1 g2).1.keep k2 (Nat.le_refl _)).keep k3 (Nat.le_trans (Nat.le_refl _) k2.nx)).mono (Nat.le_trans k2.nx k3.nx), (hel j v us g1 g2).2⟩
  have hnx3 : (H2.new (.cells [v2] false false)).2.nx.toNat = H2.nx.toNat + 1 := nx_new
  have hK3 : Keep H.nx.toNat H (H2.new (.cells [v2] false false)).2 := hK.trans ((k2.mono hK.nx).trans (k3.mono (Nat.le_trans hK.nx k2.nx)))
  generalize (H2.new (.cells [v2] false false)).2 = H3 at *
  have e4 := append_at (by' := 24) hB3 hcap s3 (scal_one hv2) (by simp; omega)
  refine wo_appendE e4 (by simp only [auT, Nat.reduceLT, Nat.reduceEqDiff, ↓reduceIte, h3]) (by simp only [auT, Nat.reduceLT, Nat.reduceEqDiff, ↓reduceIte, h3]) ?_
  simp (maxDischargeDepth := 9) only [auW, auC, auT, lget, BEq.rfl, beq_self_eq_true, decide_true, decide_false, reduceCtorEq, Nat.reduceLT, Nat.reduceEqDiff, ↓reduceIte]
  simp only [andThen, inBlock]
  refine W.region ?_
  simp (maxDischargeDepth := 9) only [auW, auC, auT, lget, BEq.rfl, beq_self_eq_true, decide_true, decide_false, reduceCtorEq, Nat.reduceLT, Nat.reduceEqDiff, ↓reduceIte, h4, b_add (show i + 1 ≤ 9223372036854775807 by omega)]
  refine ⟨by trivial, k - 1, by omega, i + 1, vs ++ [v2], rest.drop 1, by omega, ?_, ?_, ?_, by simp [hvl], ?_, ?_, ?_, ?_, ?_⟩
  · simp only [tget_puts, Nat.reduceLT, Nat.reduceEqDiff, ↓reduceIte, h0]
  · simp only [tget_puts, Nat.reduceLT, Nat.reduceEqDiff, ↓reduceIte]
  · simp only [tget_puts, Nat.reduceLT, Nat.reduceEqDiff, ↓reduceIte]
  · exact get_upd
  · simp; omega
  · show H.nx.toNat < H3.nx.toNat
    have := k2.nx; omega
  · exact hK3.trans (keep_upd (Nat.le_refl _))
  · intro j v us g1 g2
    rw [List.getElem?_append] at g1
    split at g1
    · obtain ⟨q1, q2⟩ := hel3 j v us g1 g2
      exact ⟨q1.upd q2, q2⟩
    · rename_i hj
      have hj1 := (List.getElem?_eq_some_iff.1 g1).1
      simp only [List.length_singleton] at hj1
      have : j = i := by omega
      subst this
      have hv : v = v2 := by
        have : j - vs.length = 0 := by omega
        rw [this] at g1
        simpa using g1.symm
      subst hv
      rw [List.getElem?_eq_getElem hlt] at g2
      cases g2
      exact ⟨r3.upd hoff2, hoff2⟩
end
end Go.Am
end

section
namespace Go.Am
open Go

/-- Lent lists: each lent, one more behind all. -/
structure LentL (N : Nat) (H : AHeap) (p : AVal) (uss : List (List Nat)) (B mb : Pos) (vs : List AVal) (bs : List Pos) : Prop where
  pv : p = .sl B 0 uss.length (uss.length + 1) 1
  cell : PT.get B H.t = some (.cells (vs ++ [.sl mb 0 2 2 0]) true false)
  mark : PT.get mb H.t = some (.cells [.int .u8 (.ofNat 195), .int .u8 (.ofNat 212)] false false)
  lv : vs.length = uss.length
  lb : bs.length = uss.length
  el : ∀ (j : Nat) (v : AVal) (us : List Nat) (b : Pos), vs[j]? = some v → uss[j]? = some us → bs[j]? = some b → LentB H v us b
  rB : N ≤ B.toNat ∧ B.toNat < H.nx.toNat
  rm : N ≤ mb.toNat ∧ mb.toNat < H.nx.toNat
  rb : ∀ b ∈ bs, N ≤ b.toNat ∧ b.toNat < H.nx.toNat
  off : B ∉ bs ∧ mb ∉ bs ∧ B ≠ mb
  nd : bs.Nodup
theorem LentL.frame {N : Nat} {H H' : AHeap} {p : AVal} {uss : List (List Nat)} {B mb : Pos} {vs : List AVal} {bs : List Pos} (h : LentL N H p uss B mb vs bs) (hnx : H.nx.toNat ≤ H'.nx.toNat) (hg : ∀ q : Pos, N ≤ q.toNat → q.toNat < H.nx.toNat → PT.get q H'.t = PT.get q H.t) : LentL N H' p uss B mb vs bs :=
  ⟨h.pv, by rw [hg _ h.rB.1 h.rB.2]; exact h.cell, by rw [hg _ h.rm.1 h.rm.2]; exact h.mark, h.lv, h.lb, fun j v us b e1 e2 e3 => (h.el j v us b e1 e2 e3).of_get (hg _ (h.rb b (List.mem_of_getElem? e3)).1 (h.rb b (List.mem_of_getElem? e3)).2), ⟨h.rB.1, Nat.lt_of_lt_of_le h.rB.2 hnx⟩, ⟨h.rm.1, Nat.lt_of_lt_of_le h.rm.2 hnx⟩, fun b hb => ⟨(h.rb b hb).1, Nat.lt_of_lt_of_le (h.rb b hb).2 hnx⟩, h.off, h.nd⟩
theorem LentL.keep {N : Nat} {H H' : AHeap} {p : AVal} {uss : List (List Nat)} {B mb : Pos} {vs : List AVal} {bs : List Pos} (h : LentL N H p uss B mb vs bs) (k : Keep H.nx.toNat H H') : LentL N H' p uss B mb vs bs := h.frame k.nx fun q _ hq => k.get q hq
theorem LentL.lists {N : Nat} {H : AHeap} {p : AVal} {uss : List (List Nat)} {B mb : Pos} {vs : List AVal} {bs : List Pos} (h : LentL N H p uss B mb vs bs) : Lists H.nx.toNat H p uss := by
  refine ⟨vs, ?_, h.lv, fun i vi us e1 e2 => ?_⟩
  · rw [h.pv]
    refine .inr ⟨B, 0, uss.length + 1, 1, by rw [h.lv], ?_, h.rB.2, .inr rfl, by rw [h.lv]; omega⟩
    unfold hloadN
    rw [h.cell]
    simp only
    rw [lsub_of (by simp)]
    simp
  · have hi := (List.getElem?_eq_some_iff.1 e2).1
    have hb : i < bs.length := by rw [h.lb]; exact hi
    exact (h.el i vi us _ e1 e2 (List.getElem?_eq_getElem hb)).reads (h.rb _ (List.getElem_mem hb)).2
theorem LentB.store {H : AHeap} {v : AVal} {us : List Nat} {b : Pos} (h : LentB H v us b) {k w : Nat} (hk : k < us.length) : hstoreN H b k [.int .u8 (.ofNat w)] = some (H.upd b (.cells (cellsOfBytes (us.set k w) ++ marks) true false)) ∧ LentB (H.upd b (.cells (cellsOfBytes (us.set k w) ++ marks) true false)) v (us.set k w) b := by
  obtain ⟨rfl, hg⟩ := h
  refine ⟨?_, by simp, get_upd⟩
  unfold hstoreN
  rw [hg]
  have : allScal [AVal.int .u8 (.ofNat w)] = true := rfl
  simp only [this]
  rw [lput_of _ _ _ (by simp [cells_length]; omega)]
  congr 3
  have hset : ∀ (us : List Nat) (k : Nat), k < us.length → cellsOfBytes (us.set k w) = (cellsOfBytes us).take k ++ [.int .u8 (.ofNat w)] ++ (cellsOfBytes us).drop (k + 1) := by
    intro us
    induction us with
    | nil => intro k h; simp at h
    | cons u us ih =>
      intro k h
      cases k with
      | zero => simp [cellsOfBytes]
      | succ k => simp [cellsOfBytes, ih k (by simpa using h)]
  rw [hset us k hk, List.take_append_of_le_length (by rw [cells_length]; omega)]
  simp only [List.length_singleton]
  rw [List.drop_append_of_le_length (by rw [cells_length]; omega)]
  simp
/-- One of the lent lists is written to. -/
theorem LentL.store {N : Nat} {H : AHeap} {p : AVal} {uss : List (List Nat)} {B mb : Pos} {vs : List AVal} {bs : List Pos} (h : LentL N H p uss B mb vs bs) {k w : Nat} (h0 : 0 < uss.length) (hk : k < uss[0].length) :
    ∃ b v, bs[0]? = some b ∧ vs[0]? = some v ∧ LentB H v uss[0] b ∧ hstoreN H b k [.int .u8 (.ofNat w)] = some (H.upd b (.cells (cellsOfBytes (uss[0].set k w) ++ marks) true false)) ∧ LentL N (H.upd b (.cells (cellsOfBytes (uss[0].set k w) ++ marks) true false)) p (uss.set 0 (uss[0].set k w)) B mb vs bs ∧ N ≤ b.toNat := by
  have hb : 0 < bs.length := by rw [h.lb]; exact h0
  have hv : 0 < vs.length := by rw [h.lv]; exact h0
  have hl := h.el 0 vs[0] uss[0] bs[0] (List.getElem?_eq_getElem hv) (List.getElem?_eq_getElem h0) (List.getElem?_eq_getElem hb)
  obtain ⟨s1, s2⟩ := hl.store (w := w) hk
  have hmem : bs[0] ∈ bs := List.getElem_mem hb
  have oth : ∀ q : Pos, q ≠ bs[0] → PT.get q (H.upd bs[0] (.cells (cellsOfBytes (uss[0].set k w) ++ marks) true false)).t = PT.get q H.t := fun q hq => PT.get_set_other _ _ _ _ (Ne.symm hq)
  refine ⟨bs[0], vs[0], List.getElem?_eq_getElem hb, List.getElem?_eq_getElem hv, hl, s1, ⟨by rw [h.pv]; simp, ?_, ?_, by simp [h.lv], by simp [h.lb], fun j v us b e1 e2 e3 => ?_, h.rB, h.rm, h.rb, h.off, h.nd⟩, (h.rb _ hmem).1⟩
  · rw [oth B (fun e => h.off.1 (by rw [e]; exact hmem))]; exact h.cell
  · rw [oth mb (fun e => h.off.2.1 (by rw [e]; exact hmem))]; exact h.mark
  · by_cases hj : j = 0
    · subst hj
      rw [List.getElem?_eq_getElem hv] at e1
      rw [List.getElem?_eq_getElem hb] at e3
      cases e1
      cases e3
      have : us = uss[0].set k w := by
        rw [List.getElem?_set] at e2
        simp [h0] at e2
        exact e2.symm
      subst this
      exact s2
    · rw [List.getElem?_set] at e2
      rw [if_neg (fun e => hj e.symm)] at e2
      refine (h.el j v us b e1 e2 e3).of_get (oth b fun e => ?_)
      subst e
      obtain ⟨hj1, hj2⟩ := List.getElem?_eq_some_iff.1 e3
      exact List.pairwise_iff_getElem.1 h.nd 0 j hb hj1 (by omega) hj2.symm

section
variable {E : Env} (C : CodeOk4 E)
include C

theorem lentLists_ok {n : Nat} {H : AHeap} {x : AVal} {uss : List (List Nat)} (hx : Lists n H x uss) (hn : n ≤ H.nx.toNat) (hl : uss.length ≤ 1073741824) (ht : (uss.flatMap id).length ≤ 16777216) :
    ∃ v H' B mb vs bs, CallS E 17 [x] H v H' ∧ LentL H.nx.toNat H' v uss B mb vs bs ∧ Keep H.nx.toNat H H' := by
  suffices h : ∃ v H', CallS E 17 [x] H v H' ∧ ∃ B mb vs bs, LentL H.nx.toNat H' v uss B mb vs bs ∧ Keep H.nx.toNat H H' by
    obtain ⟨v, H', h1, B, mb, vs, bs, h2⟩ := h
    exact ⟨v, H', B, mb, vs, bs, h1, h2⟩
  refine CallS.by (R := fun v H' => ∃ B mb vs bs, LentL H.nx.toNat H' v uss B mb vs bs ∧ Keep H.nx.toNat H H') (t0 := tput .l (some (Pos.ofNat 0)) x) (C.s _ rfl) rfl C.f17 rfl ?_
  refine W.seq (W.region ?_)
  simp (maxDischargeDepth := 9) only [auW, auC, auT, lget, BEq.rfl, beq_self_eq_true, decide_true, decide_false, reduceCtorEq, Nat.reduceLT, Nat.reduceEqDiff, ↓reduceIte, g17r0]
  refine W.seq (W.region ?_)
  simp (maxDischargeDepth := 9) only [auW, auC, auT, lget, BEq.rfl, beq_self_eq_true, decide_true, decide_false, reduceCtorEq, Nat.reduceLT, Nat.reduceEqDiff, ↓reduceIte, g17r1]
  refine W.seq (W.seq (W.region ?_))
  simp (maxDischargeDepth := 9) only [auW, auC, auT, lget, BEq.rfl, beq_self_eq_true, decide_true, decide_false, reduceCtorEq, Nat.reduceLT, Nat.reduceEqDiff, ↓reduceIte, g17r2]
  refine W.block (W.mono (W.loop_inv (Q := fun e a H' => e = .exit 0 ∧ a.ds = [] ∧ tget a.t (Pos.ofNat 0) = x ∧ ∃ (vs : List AVal) (bs : List Pos), Grows H.nx.toNat H' (tget a.t (Pos.ofNat 3)) vs ∧ vs.length = uss.length ∧ bs.length = uss.length ∧ Keep H.nx.toNat H H' ∧ bs.Nodup ∧ (∀ b ∈ bs, H.nx.toNat ≤ b.toNat ∧ b.toNat < H'.nx.toNat ∧ OffB (tget a.t (Pos.ofNat 3)) b) ∧ ∀ (j : Nat) (v : AVal) (us : List Nat) (b : Pos), vs[j]? = some v → uss[j]? = some us → bs[j]? = some b → LentB H' v us b)
    (fun k t H1 => ∃ (i : Nat) (lv : AVal) (vs : List AVal) (bs : List Pos), i + k = uss.length ∧ tget t (Pos.ofNat 0) = x ∧ tget t (Pos.ofNat 4) = .int .i64 (.ofNat i) ∧ tget t (Pos.ofNat 3) = lv ∧ Grows H.nx.toNat H1 lv vs ∧ vs.length = i ∧ bs.length = i ∧ Keep H.nx.toNat H H1 ∧ bs.Nodup ∧ (∀ b ∈ bs, H.nx.toNat ≤ b.toNat ∧ b.toNat < H1.nx.toNat ∧ OffB lv b) ∧ ∀ (j : Nat) (v : AVal) (us : List Nat) (b : Pos), vs[j]? = some v → uss[j]? = some us → bs[j]? = some b → LentB H1 v us b) ?_ uss.length _ H ⟨0, .snil, [], [], by omega, ?_, ?_, ?_, .inl ⟨rfl, rfl⟩, rfl, rfl, Keep.refl _ _, List.nodup_nil, fun b hb => by simp at hb, fun j v us b e => by simp at e⟩) ?_)
  rotate_left
  · simp only [tget_puts, Nat.reduceLT, Nat.reduceEqDiff, ↓reduceIte]
  · simp only [tget_puts, Nat.reduceLT, Nat.reduceEqDiff, ↓reduceIte]
  · simp only [tget_puts, Nat.reduceLT, Nat.reduceEqDiff, ↓reduceIte]
  · rintro e ⟨t, ds⟩ H1 ⟨rfl, hd, h0, vs, bs, hg, hv, hb, hK, hnd, hbs, hel⟩
    have hd : ds = [] := hd
    subst hd
    have h0 : tget t (Pos.ofNat 0) = x := h0
    have hg : Grows H.nx.toNat H1 (tget t (Pos.ofNat 3)) vs := hg
    have hbs : ∀ b ∈ bs, H.nx.toNat ≤ b.toNat ∧ b.toNat < H1.nx.toNat ∧ OffB (tget t (Pos.ofNat 3)) b := hbs
    generalize h3 : tget t (Pos.ofNat 3) = lv at *
    simp only [inBlock, andThen, beq_t]
    refine W.seq (W.region ?_)
    simp (maxDischargeDepth := 9) only [auW, auC, auT, lget, BEq.rfl, beq_self_eq_true, decide_true, decide_false, reduceCtorEq, Nat.reduceLT, Nat.reduceEqDiff, ↓reduceIte, g17r7, h3]
    refine wo_buildSlice (fill2 rfl rfl) ?_
    have k2 : Keep H1.nx.toNat H1 (H1.new (.cells [.int .u8 (.ofNat 195), .int .u8 (.ofNat 212)] false false)).2 := keep_new
    have g2 : PT.get H1.nx (H1.new (.cells [.int .u8 (.ofNat 195), .int .u8 (.ofNat 212)] false false)).2.t = _ := get_new
    have n2 : (H1.new (.cells [.int .u8 (.ofNat 195), .int .u8 (.ofNat 212)] false false)).2.nx.toNat = H1.nx.toNat + 1 := nx_new
    generalize (H1.new (.cells [.int .u8 (.ofNat 195), .int .u8 (.ofNat 212)] false false)).2 = H2 at *
    refine wo_buildSlice (fill1 (v := .sl H1.nx 0 2 2 0) (by simp only [auT, Nat.reduceLT, Nat.reduceEqDiff, ↓reduceIte]) rfl) ?_
    have k3 : Keep H2.nx.toNat H2 (H2.new (.cells [.sl H1.nx 0 2 2 0] false false)).2 := keep_new
    have n3 : (H2.new (.cells [.sl H1.nx 0 2 2 0] false false)).2.nx.toNat = H2.nx.toNat + 1 := nx_new
    have s3 : srcCells (H2.new (.cells [.sl H1.nx 0 2 2 0] false false)).2 1 (.sl H2.nx 0 1 1 0) = some ([AVal.sl H1.nx 0 2 2 0].length, [.sl H1.nx 0 2 2 0]) := src_new (l := [.sl H1.nx 0 2 2 0])
    have hg3 := (hg.keep k2).keep k3
    have k13 : Keep H1.nx.toNat H1 (H2.new (.cells [.sl H1.nx 0 2 2 0] false false)).2 := k2.trans (k3.mono k2.nx)
    have g3 : PT.get H1.nx (H2.new (.cells [.sl H1.nx 0 2 2 0] false false)).2.t = some (.cells [.int .u8 (.ofNat 195), .int .u8 (.ofNat 212)] false false) := by rw [k3.get _ (by omega)]; exact g2
    generalize (H2.new (.cells [.sl H1.nx 0 2 2 0] false false)).2 = H3 at *
    obtain ⟨v4, H4, e4, r4, k4, fr, ap⟩ := append_grows' (by' := 24) hg3 s3 (Nat.le_trans hK.nx k13.nx) (by simp) rfl (by simp; omega)
    refine wo_appendE e4 (by simp only [auT, Nat.reduceLT, Nat.reduceEqDiff, ↓reduceIte, h3]) (by simp only [auT, Nat.reduceLT, Nat.reduceEqDiff, ↓reduceIte, h3]) ?_
    simp (maxDischargeDepth := 9) only [auW, auC, auT, lget, BEq.rfl, beq_self_eq_true, decide_true, decide_false, reduceCtorEq, Nat.reduceLT, Nat.reduceEqDiff, ↓reduceIte]
    have h3nx : H1.nx.toNat < H3.nx.toNat := by omega
    have hoff1 : ∀ b : Pos, H1.nx.toNat ≤ b.toNat → OffB lv b := by
      intro b hb' o len cap sz e
      rcases hg with ⟨rfl, _⟩ | ⟨b', rfl, _, _, hlt⟩
      · cases e
      · cases e; omega
    rcases r4 with ⟨rfl, hh⟩ | ⟨B, rfl, hB, hB1, hB2⟩
    · simp at hh
    have hBne : ∀ b : Pos, b.toNat < H3.nx.toNat → B ≠ b := by
      intro b hb' e
      subst e
      exact ap B hb' _ _ _ _ rfl
    have hx4 := hx.keep (hK.trans ((k13.mono hK.nx).trans k4)) hn
    refine W.seq (W.region ?_)
    have hlen4 : (vs ++ [AVal.sl H1.nx 0 2 2 0]).length = uss.length + 1 := by simp [hv]
    rw [hlen4]
    have hsl : ∀ {t : PT AVal}, tget t (Pos.ofNat 25) = .int .i64 (.ofNat uss.length) → sliceA t (.sl 1) (.sl B 0 (uss.length + 1) (uss.length + 1) 1) none (some (.t (Pos.ofNat 25))) none = some (.sl B 0 uss.length (uss.length + 1) 1) := fun h => slice_pre (by simpa [AOpnd.ev] using h) (by omega)
    simp (maxDischargeDepth := 9) only [auW, auC, auT, lget, BEq.rfl, beq_self_eq_true, decide_true, decide_false, reduceCtorEq, Nat.reduceLT, Nat.reduceEqDiff, ↓reduceIte, g17r8, h0, hx4.at.1, hsl]
    refine W.ret ⟨.inr rfl, rfl, .sl B 0 uss.length (uss.length + 1) 1, ?_, B, H1.nx, vs, bs, ⟨rfl, hB, ?_, hv, hb, fun j v us b e1 e2 e3 => ?_, ⟨hB1, hB2⟩, ⟨hK.nx, Nat.lt_of_lt_of_le h3nx k4.nx⟩, fun b hb' => ⟨(hbs b hb').1, Nat.lt_of_lt_of_le (hbs b hb').2.1 (Nat.le_trans k13.nx k4.nx)⟩, ⟨fun hm => hBne B (Nat.lt_of_lt_of_le (hbs B hm).2.1 k13.nx) rfl, fun hm => ?_, hBne _ h3nx⟩, hnd⟩, hK.trans ((k13.mono hK.nx).trans k4)⟩
    · simp only [resultA, g17, tget_puts, Nat.reduceLT, Nat.reduceEqDiff, ↓reduceIte]
    · rw [fr _ h3nx (hoff1 _ (Nat.le_refl _))]; exact g3
    · have hm := List.mem_of_getElem? e3
      refine (hel j v us b e1 e2 e3).of_get ?_
      rw [fr b (Nat.lt_of_lt_of_le (hbs b hm).2.1 k13.nx) (hbs b hm).2.2, k13.get b (hbs b hm).2.1]
    · have := (hbs _ hm).2.1; omega
  rintro k t H1 ⟨i, lv, vs, bs, hi, h0, h4, h3, hg, hv, hb, hK, hnd, hbs, hel⟩
  have hxk := hx.keep hK hn
  obtain ⟨lx1, ax1⟩ := hxk.at
  refine W.seq (W.seq (W.region ?_))
  simp (maxDischargeDepth := 9) only [auW, auC, auT, lget, BEq.rfl, beq_self_eq_true, decide_true, decide_false, reduceCtorEq, Nat.reduceLT, Nat.reduceEqDiff, ↓reduceIte, g17r3, h0, h4, lx1]
  refine W.cond_if (p := i < uss.length) (by simp [AOpnd.ev, tget_puts]) (fun hlt => W.skip ?_) (fun hge => W.exit ?_)
  rotate_left
  · refine ⟨by trivial, by trivial, ?_, vs, bs, ?_, by omega, by omega, hK, hnd, ?_, hel⟩
    · simp only [tget_puts, Nat.reduceLT, Nat.reduceEqDiff, ↓reduceIte, h0]
    · simp only [tget_puts, Nat.reduceLT, Nat.reduceEqDiff, ↓reduceIte, h3]
      exact hg
    · simp only [tget_puts, Nat.reduceLT, Nat.reduceEqDiff, ↓reduceIte, h3]
      exact hbs
  simp only [andThen]
  obtain ⟨b, o, vi, e1, e2, e3⟩ := ax1 i hlt
  have hnn : n ≤ H1.nx.toNat := Nat.le_trans hn hK.nx
  have hul := total_at hlt
  obtain ⟨v2, H2, b2, c2, l2, lo2, hi2, k2⟩ := lent_ok C e3 hnn (by omega)
  refine W.seq (W.block (W.region ?_))
  simp (maxDischargeDepth := 9) only [auW, auC, auT, lget, BEq.rfl, beq_self_eq_true, decide_true, decide_false, reduceCtorEq, Nat.reduceLT, Nat.reduceEqDiff, ↓reduceIte, g17r4, h3, h0, h4, e1, e2]
  refine wo_callE (c2) (by simp only [auT, Nat.reduceLT, Nat.reduceEqDiff, ↓reduceIte]) ?_
  have hv2 : isScal v2 = true := by rw [l2.1]; rfl
  refine wo_buildSlice (fill1 (v := v2) (by simp [AOpnd.ev, tget_puts]) hv2) ?_
  have k3 : Keep H2.nx.toNat H2 (H2.new (.cells [v2] false false)).2 := keep_new
  have n3 : (H2.new (.cells [v2] false false)).2.nx.toNat = H2.nx.toNat + 1 := nx_new
  have s3 : srcCells (H2.new (.cells [v2] false false)).2 1 (.sl H2.nx 0 1 1 0) = some ([v2].length, [v2]) := src_new (l := [v2])
  have hg3 := (hg.keep k2).keep (k3.mono (Nat.le_refl _))
  have k13 : Keep H1.nx.toNat H1 (H2.new (.cells [v2] false false)).2 := k2.trans (k3.mono k2.nx)
  have l3 := l2.of_get (k3.get b2 hi2)
  generalize (H2.new (.cells [v2] false false)).2 = H3 at *
  obtain ⟨v4, H4, e4, r4, k4, fr, ap⟩ := append_grows' (by' := 24) hg3 s3 (Nat.le_trans hK.nx k13.nx) (by simp) (scal_one hv2) (by simp; omega)
  have hoff1 : ∀ b : Pos, H1.nx.toNat ≤ b.toNat → OffB lv b := by
    intro b hb' o len cap sz e
    rcases hg with ⟨rfl, _⟩ | ⟨b', rfl, _, _, hlt⟩
    · cases e
    · cases e; omega
  refine wo_appendE e4 (by simp only [auT, Nat.reduceLT, Nat.reduceEqDiff, ↓reduceIte, h3]) (by simp only [auT, Nat.reduceLT, Nat.reduceEqDiff, ↓reduceIte, h3]) ?_
  simp (maxDischargeDepth := 9) only [auW, auC, auT, lget, BEq.rfl, beq_self_eq_true, decide_true, decide_false, reduceCtorEq, Nat.reduceLT, Nat.reduceEqDiff, ↓reduceIte]
  simp only [andThen, inBlock]
  refine W.region ?_
  simp (maxDischargeDepth := 9) only [auW, auC, auT, lget, BEq.rfl, beq_self_eq_true, decide_true, decide_false, reduceCtorEq, Nat.reduceLT, Nat.reduceEqDiff, ↓reduceIte, h4, b_add (show i + 1 ≤ 9223372036854775807 by omega)]
  refine ⟨by trivial, k - 1, by omega, i + 1, v4, vs ++ [v2], bs ++ [b2], by omega, ?_, ?_, ?_, r4, by simp [hv], by simp [hb], hK.trans ((k13.mono hK.nx).trans k4), ?_, ?_, ?_⟩
  · simp only [tget_puts, Nat.reduceLT, Nat.reduceEqDiff, ↓reduceIte, h0]
  · simp only [tget_puts, Nat.reduceLT, Nat.reduceEqDiff, ↓reduceIte]
  · simp only [tget_puts, Nat.reduceLT, Nat.reduceEqDiff, ↓reduceIte]
  · rw [List.nodup_append]
    refine ⟨hnd, by simp, fun a ha c hc e => ?_⟩
    simp only [List.mem_singleton] at hc
    subst hc
    subst e
    have := (hbs _ ha).2.1
    omega
  · intro c hc
    rcases List.mem_append.1 hc with hc | hc
    · obtain ⟨q1, q2, q3⟩ := hbs c hc
      exact ⟨q1, Nat.lt_of_lt_of_le q2 (Nat.le_trans k13.nx k4.nx), ap c (Nat.lt_of_lt_of_le q2 k13.nx)⟩
    · simp only [List.mem_singleton] at hc
      subst hc
      exact ⟨Nat.le_trans hK.nx lo2, Nat.lt_of_lt_of_le hi2 (Nat.le_trans (by omega) k4.nx), ap c (by omega)⟩
  · intro j v us c g1 g2 g3
    by_cases hj : j < i
    · rw [List.getElem?_append_left (by omega)] at g1 g3
      have hm := List.mem_of_getElem? g3
      refine (hel j v us c g1 g2 g3).of_get ?_
      rw [fr c (Nat.lt_of_lt_of_le (hbs c hm).2.1 k13.nx) (hbs c hm).2.2, k13.get c (hbs c hm).2.1]
    · have hj1 := (List.getElem?_eq_some_iff.1 g1).1
      simp only [List.length_append, List.length_singleton] at hj1
      have hji : j = i := by omega
      subst hji
      rw [List.getElem?_append_right (by omega)] at g1 g3
      have hz1 : j - vs.length = 0 := by omega
      have hz2 : j - bs.length = 0 := by omega
      rw [hz1] at g1
      rw [hz2] at g3
      simp only [List.getElem?_cons_zero, Option.some.injEq] at g1 g3
      subst g1
      subst g3
      rw [List.getElem?_eq_getElem hlt] at g2
      cases g2
      exact l3.of_get (fr b2 (by omega) (hoff1 _ lo2))

/-- StayLists, of lists that stayed. -/
theorem stayLists_ok (hst : ∀ {n : Nat} {H : AHeap} {m v : AVal} {b : Pos} {us : List Nat}, LentB H m us b → b.toNat < H.nx.toNat → Reads n H v (cellsOfBytes us) → (∀ u ∈ us, u < 256) → us.length ≤ 16777216 → CallS E 22 [m, v] H (.bool true) H)
    {N n : Nat} {H : AHeap} {p x : AVal} {uss : List (List Nat)} {B mb : Pos} {vs : List AVal} {bs : List Pos} (hp : LentL N H p uss B mb vs bs) (hx : Lists n H x uss) (hu : ∀ us ∈ uss, ∀ u ∈ us, u < 256) (hl : uss.length ≤ 1073741824) (ht : (uss.flatMap id).length ≤ 16777216) :
    ∃ H', CallS E 23 [p, x] H (.bool true) H' ∧ Keep H.nx.toNat H H' := by
  suffices h : ∃ v H', CallS E 23 [p, x] H v H' ∧ v = .bool true ∧ Keep H.nx.toNat H H' by obtain ⟨v, H', h, rfl, k⟩ := h; exact ⟨H', h, k⟩
  refine CallS.by (R := fun v H' => v = .bool true ∧ Keep H.nx.toNat H H') (t0 := tput (tput .l (some (Pos.ofNat 0)) p) (some (Pos.ofNat 1)) x) (C.s _ rfl) rfl C.f23 rfl ?_
  obtain ⟨lx, ax⟩ := hx.at
  obtain ⟨lp, ap⟩ := hp.lists.at
  have hpv := hp.pv
  refine W.seq (W.region ?_)
  simp (maxDischargeDepth := 9) only [auW, auC, auT, lget, BEq.rfl, beq_self_eq_true, decide_true, decide_false, reduceCtorEq, Nat.reduceLT, Nat.reduceEqDiff, ↓reduceIte, g23r0]
  refine W.seq (W.seq (W.region ?_))
  simp (maxDischargeDepth := 9) only [auW, auC, auT, lget, BEq.rfl, beq_self_eq_true, decide_true, decide_false, reduceCtorEq, Nat.reduceLT, Nat.reduceEqDiff, ↓reduceIte, g23r1, lx, lp]
  refine W.cond_false (by simp [AOpnd.ev, tget_puts]) (W.skip ?_)
  simp only [andThen]
  have hsl : ∀ {t : PT AVal}, tget t (Pos.ofNat 16) = .int .i64 (.ofNat (uss.length + 1)) → sliceA t (.sl 1) (.sl B 0 uss.length (uss.length + 1) 1) none (some (.t (Pos.ofNat 16))) none = some (.sl B 0 (uss.length + 1) (uss.length + 1) 1) := fun h => slice_pre (by simpa [AOpnd.ev] using h) (by omega)
  have hix : fIdxS 1 (.sl B 0 (uss.length + 1) (uss.length + 1) 1) (.int .i64 (.ofNat uss.length)) = some (.ptr B uss.length) := by
    simp only [fIdxS, natOf, blt_t (Nat.lt_succ_self uss.length), off1, Nat.zero_add]
  have hld : hload H B uss.length = some (.sl mb 0 2 2 0) := by
    unfold hload
    rw [hp.cell]
    simp only
    have : ∀ (l : List AVal) (w : AVal), lget (l ++ [w]) l.length = some w := by
      intro l w
      induction l with
      | nil => rfl
      | cons a l ih => simpa [lget] using ih
    rw [← hp.lv]
    exact this _ _
  refine W.seq (W.region ?_)
  simp (maxDischargeDepth := 9) only [auW, auC, auT, lget, BEq.rfl, beq_self_eq_true, decide_true, decide_false, reduceCtorEq, Nat.reduceLT, Nat.reduceEqDiff, ↓reduceIte, g23r3, lx, hpv, hsl, hix, hld, b_add (show uss.length + 1 ≤ 9223372036854775807 by omega)]
  refine W.seq (W.seq (W.region ?_))
  simp (maxDischargeDepth := 9) only [auW, auC, auT, lget, BEq.rfl, beq_self_eq_true, decide_true, decide_false, reduceCtorEq, Nat.reduceLT, Nat.reduceEqDiff, ↓reduceIte, g23r4]
  refine W.block (W.mono (W.loop_inv (Q := fun e a H' => e = .exit 0 ∧ a.ds = [] ∧ H' = H ∧ tget a.t (Pos.ofNat 5) = .sl mb 0 2 2 0) (fun k t H1 => ∃ i, H1 = H ∧ i + k = uss.length ∧ tget t (Pos.ofNat 0) = p ∧ tget t (Pos.ofNat 1) = x ∧ tget t (Pos.ofNat 5) = .sl mb 0 2 2 0 ∧ tget t (Pos.ofNat 6) = .int .i64 (.ofNat i)) ?_ uss.length _ H ⟨0, rfl, by omega, ?_, ?_, ?_, ?_⟩) ?_)
  rotate_left
  · simp only [tget_puts, Nat.reduceLT, Nat.reduceEqDiff, ↓reduceIte, hpv]
  · simp only [tget_puts, Nat.reduceLT, Nat.reduceEqDiff, ↓reduceIte]
  · simp only [tget_puts, Nat.reduceLT, Nat.reduceEqDiff, ↓reduceIte]
  · simp only [tget_puts, Nat.reduceLT, Nat.reduceEqDiff, ↓reduceIte]
  · rintro e ⟨t, ds⟩ H' ⟨rfl, hd, rfl, h5⟩
    have hd : ds = [] := hd
    subst hd
    have h5 : tget t (Pos.ofNat 5) = .sl mb 0 2 2 0 := h5
    simp only [inBlock, andThen, beq_t]
    refine W.seq (W.region ?_)
    simp (maxDischargeDepth := 9) only [auW, auC, auT, lget, BEq.rfl, beq_self_eq_true, decide_true, decide_false, reduceCtorEq, Nat.reduceLT, Nat.reduceEqDiff, ↓reduceIte, g23r11, h5]
    refine wo_buildSlice (fill2 rfl rfl) ?_
    have k2 : Keep H'.nx.toNat H' (H'.new (.cells [.int .u8 (.ofNat 195), .int .u8 (.ofNat 212)] false false)).2 := keep_new
    have ra : Reads H'.nx.toNat H' (.sl mb 0 2 2 0) (cellsOfBytes [195, 212]) := by
      refine .inr ⟨mb, 0, 2, 0, rfl, ?_, hp.rm.2, .inl rfl, Nat.le_refl _⟩
      unfold hloadN
      rw [hp.mark]
      rfl
    have rb : Reads (H'.new (.cells [.int .u8 (.ofNat 195), .int .u8 (.ofNat 212)] false false)).2.nx.toNat (H'.new (.cells [.int .u8 (.ofNat 195), .int .u8 (.ofNat 212)] false false)).2 (.sl H'.nx 0 2 2 0) (cellsOfBytes [195, 212]) := by
      refine .inr ⟨H'.nx, 0, 2, 0, rfl, ?_, by rw [nx_new]; omega, .inl rfl, Nat.le_refl _⟩
      unfold hloadN
      rw [get_new]
      rfl
    refine wo_callE (same_bytes C.toCodeOk ((ra.keep k2 (Nat.le_refl _)).mono k2.nx) rb (by decide)) (by simp only [auT, Nat.reduceLT, Nat.reduceEqDiff, ↓reduceIte, h5]) ?_
    simp (maxDischargeDepth := 9) only [auW, auC, auT, lget, BEq.rfl, beq_self_eq_true, decide_true, decide_false, reduceCtorEq, Nat.reduceLT, Nat.reduceEqDiff, ↓reduceIte]
    refine W.ret ⟨.inr rfl, rfl, .bool true, ?_, rfl, k2⟩
    simp only [resultA, g23, tget_puts, Nat.reduceLT, Nat.reduceEqDiff, ↓reduceIte]
  rintro k t H1 ⟨i, rfl, hi, h0, h1, h5, h6⟩
  refine W.seq (W.seq (W.region ?_))
  simp (maxDischargeDepth := 9) only [auW, auC, auT, lget, BEq.rfl, beq_self_eq_true, decide_true, decide_false, reduceCtorEq, Nat.reduceLT, Nat.reduceEqDiff, ↓reduceIte, g23r5, h1, h6, lx]
  refine W.cond_if (p := i < uss.length) (by simp [AOpnd.ev, tget_puts]) (fun hlt => W.skip ?_) (fun hge => W.exit ?_)
  rotate_left
  · refine ⟨by trivial, by trivial, by trivial, ?_⟩
    simp only [tget_puts, Nat.reduceLT, Nat.reduceEqDiff, ↓reduceIte, h5]
  simp only [andThen]
  obtain ⟨b, o, vi, e1, e2, e3⟩ := ax i hlt
  have hvl : i < vs.length := by rw [hp.lv]; exact hlt
  have hbl : i < bs.length := by rw [hp.lb]; exact hlt
  have hlb := hp.el i vs[i] uss[i] bs[i] (List.getElem?_eq_getElem hvl) (List.getElem?_eq_getElem hlt) (List.getElem?_eq_getElem hbl)
  have hip : fIdxS 1 p (.int .i64 (.ofNat i)) = some (.ptr B i) := by
    rw [hpv]
    simp only [fIdxS, natOf, blt_t hlt, off1, Nat.zero_add]
  have hlp : hload H1 B i = some vs[i] := by
    unfold hload
    rw [hp.cell]
    simp only
    have : ∀ (l m : List AVal) (i : Nat) (h : i < l.length), lget (l ++ m) i = some l[i] := by
      intro l m
      induction l with
      | nil => intro i h; simp at h
      | cons a l ih =>
        intro i h
        cases i with
        | zero => rfl
        | succ i => simpa [lget] using ih i (by simpa using h)
    exact this _ _ i hvl
  have hul := total_at hlt
  have hc := hst hlb (hp.rb _ (List.getElem_mem hbl)).2 e3 (hu _ (List.getElem_mem hlt)) (by omega)
  refine W.seq (W.block (W.seq (W.draw ?_)))
  simp (maxDischargeDepth := 9) only [auD, auC, auT, lget, BEq.rfl, beq_self_eq_true, decide_true, decide_false, reduceCtorEq, Nat.reduceLT, Nat.reduceEqDiff, ↓reduceIte, g23d6, h0, h1, h6, e1, e2, hip, hlp]
  refine wd_callE hc (by simp only [auT, Nat.reduceLT, Nat.reduceEqDiff, ↓reduceIte]) (by repeat (first | exact again_nil' | refine again_skip rfl ?_)) ?_
  simp (maxDischargeDepth := 9) only [auD, auC, auT, lget, BEq.rfl, beq_self_eq_true, decide_true, decide_false, reduceCtorEq, Nat.reduceLT, Nat.reduceEqDiff, ↓reduceIte]
  refine W.seq (W.region ?_)
  simp (maxDischargeDepth := 9) only [auW, auC, auT, lget, BEq.rfl, beq_self_eq_true, decide_true, decide_false, reduceCtorEq, Nat.reduceLT, Nat.reduceEqDiff, ↓reduceIte, g23r7]
  refine W.cond_false (by simp [AOpnd.ev, tget_puts]) (W.skip ?_)
  simp only [andThen, inBlock]
  refine W.region ?_
  simp (maxDischargeDepth := 9) only [auW, auC, auT, lget, BEq.rfl, beq_self_eq_true, decide_true, decide_false, reduceCtorEq, Nat.reduceLT, Nat.reduceEqDiff, ↓reduceIte, g23r9, h6, b_add (show i + 1 ≤ 9223372036854775807 by omega)]
  refine ⟨by trivial, k - 1, by omega, i + 1, by trivial, by omega, ?_, ?_, ?_, ?_⟩
  · simp only [tget_puts, Nat.reduceLT, Nat.reduceEqDiff, ↓reduceIte, h0]
  · simp only [tget_puts, Nat.reduceLT, Nat.reduceEqDiff, ↓reduceIte, h1]
  · simp only [tget_puts, Nat.reduceLT, Nat.reduceEqDiff, ↓reduceIte, h5]
  · simp only [tget_puts, Nat.reduceLT, Nat.reduceEqDiff, ↓reduceIte]
end
end Go.Am
end
