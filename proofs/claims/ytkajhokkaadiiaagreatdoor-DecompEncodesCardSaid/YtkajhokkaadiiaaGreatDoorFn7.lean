/- Part of the proof: AmF13, AmF14. -/
import Derived.Test.YtkajhokkaadiiaaGreatDoorFn6
section
namespace Go.Am
open Go

/-- Both answers are read alike. -/
theorem EncR.same {gen : Int} {zs : List Int} {v v' : AVal} {H H' : AHeap} {m : Nat} (h : EncR gen zs v H) (h' : EncR gen zs v' H') (k : Keep H.nx.toNat H H') (hm : m = H'.nx.toNat) :
    ∃ us uss e hd dt hd' dt', v = .tup [hd, dt, .int .i64 e] ∧ v' = .tup [hd', dt', .int .i64 e] ∧ Reads m H' hd (cellsOfBytes us) ∧ Reads m H' hd' (cellsOfBytes us) ∧ Lists m H' dt uss ∧ Lists m H' dt' uss ∧ (∀ u ∈ us, u < 256) ∧ (∀ us' ∈ uss, ∀ u ∈ us', u < 256) ∧ uss.length ≤ zs.length + 199 := by
  subst hm
  have hlt : ∀ l : List Nat, ∀ u ∈ all4 l, u < 256 := by
    intro l u hu
    simp only [all4, List.mem_flatMap] at hu
    obtain ⟨a, _, ha⟩ := hu
    exact b4_lt a u ha
  rcases h with ⟨hg, rfl⟩ | ⟨hg, hd, dt, rfl, r1, l1⟩
  · rcases h' with ⟨_, rfl⟩ | ⟨hg', _⟩
    · exact ⟨[], [], 191, .snil, .snil, .snil, .snil, rfl, rfl, .inl ⟨rfl, rfl⟩, .inl ⟨rfl, rfl⟩, ⟨[], .inl ⟨rfl, rfl⟩, rfl, by simp⟩, ⟨[], .inl ⟨rfl, rfl⟩, rfl, by simp⟩, by simp, by simp, by simp⟩
    · exact absurd hg' hg
  · rcases h' with ⟨hg', _⟩ | ⟨_, hd', dt', rfl, r2, l2⟩
    · exact absurd hg hg'
    · refine ⟨_, _, 0, hd, dt, hd', dt', rfl, rfl, (r1.keep k (Nat.le_refl _)).mono k.nx, r2, (l1.keep k (Nat.le_refl _)).mono k.nx, l2, hlt _, ?_, ?_⟩
      · intro us' hus'
        simp only [chs, List.mem_map] at hus'
        obtain ⟨j, _, rfl⟩ := hus'
        exact hlt _
      · rw [chs_length]; unfold kc; simp; omega

/-- A full slice grows into a new block. -/
theorem append_full {n : Nat} {H : AHeap} {v x : AVal} {l new : List AVal} {by' : Nat} (h : Room n H v l l.length) (hx : srcCells H 1 x = some (new.length, new)) (h0 : 0 < new.length) (hb : (l.length + new.length) * 2 * by' ≤ 281474976710656) :
    ∃ v' H', appendA H 1 by' v x = some (v', H') ∧ Grows H.nx.toNat H' v' (l ++ new) ∧ Keep H.nx.toNat H H' := by
  obtain ⟨b, rest, rfl, h, hcap, h1, h2⟩ := h
  have hrest : rest = [] := List.length_eq_zero_iff.1 (by omega)
  subst hrest
  rw [List.append_nil] at h
  unfold appendA
  rw [hx]
  have e1 : Nat.ble (Nat.add l.length new.length) l.length = false := ble_f (by rw [nadd]; omega)
  have e2 : hloadN H b 0 (Nat.mul l.length 1) = some l := by
    unfold hloadN
    rw [h]
    simp only [mul1]
    rw [lsub_of (by omega)]
    simp
  have e3 : Nat.ble (Nat.mul (Nat.mul (Nat.add l.length new.length) 2) by') 281474976710656 = true := ble_t hb
  simp only [e1, e2, e3]
  refine ⟨_, _, rfl, .inr ⟨H.nx, ?_, get_new, Nat.le_refl _, ?_⟩, keep_new⟩
  · simp; rfl
  · show _ < H.nx.succ.toNat
    rw [Pos.toNat_succ]; omega

theorem rem_ok (a : Int) {n : Nat} (hn : 0 < n) : binOpA .rem (.int .i64 a) (.int .i64 (.ofNat n)) = some (.int .i64 (Int.tmod a n)) := by
  show (match isZero (.ofNat n) with | true => none | false => some (AVal.int .i64 (remI a (.ofNat n)))) = _
  have hz : isZero (.ofNat n) = false := by
    obtain ⟨m, rfl⟩ : ∃ m, n = m + 1 := ⟨n - 1, by omega⟩
    rfl
  rw [hz]
  simp only
  congr 2
  cases a with
  | ofNat a => show Int.ofNat (Nat.mod a n) = _; rfl
  | negSucc a => rfl
theorem index_ok (a : Int) {n : Nat} (hn : 0 < n) (hs : n ≤ 65536) : ∃ j, j < n ∧ binOpA .add (.int .i64 (Int.tmod a n)) (.int .i64 (.ofNat n)) = some (.int .i64 (Int.tmod a n + n)) ∧ Int.tmod (Int.tmod a n + n) n = .ofNat j := by
  have h1 : Int.tmod a n < n := Int.tmod_lt_of_pos a (by omega)
  have h2 : -(n : Int) < Int.tmod a n := by
    have := Int.lt_tmod_of_pos a (b := (n : Int)) (by omega)
    omega
  obtain ⟨q, hq⟩ : ∃ q : Nat, Int.tmod a n + n = .ofNat q := ⟨(Int.tmod a n + n).toNat, (Int.toNat_of_nonneg (by omega)).symm⟩
  refine ⟨q % n, Nat.mod_lt _ hn, ?_, by rw [hq]; rfl⟩
  show some (AVal.int .i64 (wrapI .i64 (addI (Int.tmod a n) (.ofNat n)))) = _
  have ha : addI (Int.tmod a n) (.ofNat n) = Int.tmod a n + n := by
    cases Int.tmod a n <;> rfl
  rw [ha, hq]
  have : Nat.ble q 9223372036854775807 = true := ble_t (by have : (q : Int) = Int.tmod a n + n := hq.symm; omega)
  simp only [wrapI, this]
theorem slice_cut {t : PT AVal} {H : AHeap} {X Y V : AOpnd} {b : Pos} {n : Nat} (hX : X.ev t = .sl b 0 (n + 1) (n + 1) 1) (hY : Y.ev t = .int .i64 (.ofNat n)) (hV : V.ev t = .int .i64 (.ofNat (n + 1))) :
    quiet t H (.slice (.sl 1) X none (some Y) (some V)) = some (.sl b 0 n (n + 1) 0) := by
  have e1 : Nat.ble (n + 1) (n + 1) = true := ble_t (Nat.le_refl _)
  have e4 : Nat.ble n (n + 1) = true := ble_t (by omega)
  have e5 : Nat.ble 0 n = true := ble_t (by omega)
  have e2 : Nat.beq (n + 1) 0 = false := rfl
  have e3 : Nat.beq (Nat.succ 0) 1 = true := rfl
  simp only [quiet, sliceA, hX, boundOf, hY, hV, natOf, e1, e2, e4, nsub]
  rfl
theorem slice_cut0 {t : PT AVal} {H : AHeap} {X Y : AOpnd} {b : Pos} {n : Nat} (hX : X.ev t = .sl b 0 (n + 1) (n + 1) 0) (hY : Y.ev t = .int .i64 (.ofNat n)) :
    quiet t H (.slice (.sl 1) X none (some Y) none) = some (.sl b 0 n (n + 1) 0) := by
  have e4 : Nat.ble n (n + 1) = true := ble_t (by omega)
  have e2 : Nat.beq (n + 1) 0 = false := rfl
  simp only [quiet, sliceA, hX, boundOf, hY, natOf, e2, e4, nsub]
  rfl
theorem Grows.store {n : Nat} {H : AHeap} {v w : AVal} {l : List AVal} (h : Grows n H v l) {j : Nat} (hj : j < l.length) (hs : isScal w = true) : ∃ b H', v = .sl b 0 l.length l.length 1 ∧ hstoreN H b j [w] = some H' ∧ Grows n H' v (l.set j w) ∧ Keep n H H' := by
  rcases h with ⟨rfl, rfl⟩ | ⟨b, rfl, g, h1, h2⟩
  · simp at hj
  · refine ⟨b, H.upd b (.cells (l.set j w) true false), rfl, ?_, .inr ⟨b, by simp, get_upd, h1, h2⟩, keep_upd h1⟩
    unfold hstoreN
    rw [g]
    simp only [scal_one hs]
    rw [lput_of _ _ _ (by simp; omega)]
    simp [List.set_eq_take_append_cons_drop, hj]

section
variable {E : Env} (C : CodeOk E)
include C
theorem law_loop {base : Nat} {gen at' to' : Int} {n : Nat} (hn : n ≤ 65536) (d : Nat) :
    ∀ {c : Nat} {t : PT AVal} {lv : AVal} {H : AHeap} {ws : List Int} {ro : Option Pos}, c + d = 2 → tget t (Pos.ofNat 0) = .int .i64 gen → tget t (Pos.ofNat 2) = .int .i64 at' → tget t (Pos.ofNat 3) = .int .i64 to' → tget t (Pos.ofNat 10) = .int .i64 (.ofNat n) → tget t (Pos.ofNat 11) = lv → tget t (Pos.ofNat 12) = .int .i64 (.ofNat c) →
      ws.length = n + 1 → Grows base H lv (zcells ws) → base ≤ H.nx.toNat →
    W E (.loop g3l21) ro ⟨t, []⟩ H (fun e a _H' => e = .exit 0 ∧ a.ds = []) := by
  induction d with
  | zero =>
    intro c t lv H ws ro hc h0 h2 h3 h10 h11 h12 hw hg hb
    have hc2 : c = 2 := by omega
    subst hc2
    refine W.loop (W.seq (W.seq (W.region ?_)))
    refine WO.go (v := .int .i64 (.ofNat 2)) (H' := H) rfl rfl (fun rec => by simp [-Int.ofNat_eq_natCast, execA, write, quiet, AOpnd.ev, h12]) ?_
    refine WO.go (v := .bool false) (H' := H) rfl rfl (fun rec => by simp [execA, write, quiet, AOpnd.ev, tget_puts]; rfl) (WO.nil ?_)
    refine W.cond_false (by simp [AOpnd.ev, tget_puts]) (W.exit ?_)
    exact ⟨rfl, rfl⟩
  | succ d ih =>
    intro c t lv H ws ro hc h0 h2 h3 h10 h11 h12 hw hg hb
    refine W.loop (W.seq (W.seq (W.region ?_)))
    refine WO.go (v := .int .i64 (.ofNat c)) (H' := H) rfl rfl (fun rec => by simp [-Int.ofNat_eq_natCast, execA, write, quiet, AOpnd.ev, h12]) ?_
    refine WO.go (v := .bool true) (H' := H) rfl rfl (fun rec => by
      have : binOpA .lss (.int .i64 (.ofNat c)) (.int .i64 2) = some (.bool true) := lss_t (j := 2) (by omega)
      simp [-Int.ofNat_eq_natCast, execA, write, quiet, AOpnd.ev, tget_puts, this]) (WO.nil ?_)
    refine W.cond_true (by simp [AOpnd.ev, tget_puts]) (W.skip ?_)
    refine W.seq (W.block (W.seq (W.region ?_)))
    generalize ht : tput _ (some (Pos.ofNat 48)) (AVal.bool true) = t1
    have h0 : tget t1 (Pos.ofNat 0) = .int .i64 gen := by rw [← ht]; simp [-Int.ofNat_eq_natCast, tget_puts, h0]
    have h2 : tget t1 (Pos.ofNat 2) = .int .i64 at' := by rw [← ht]; simp [-Int.ofNat_eq_natCast, tget_puts, h2]
    have h3 : tget t1 (Pos.ofNat 3) = .int .i64 to' := by rw [← ht]; simp [-Int.ofNat_eq_natCast, tget_puts, h3]
    have h10 : tget t1 (Pos.ofNat 10) = .int .i64 (.ofNat n) := by rw [← ht]; simp [-Int.ofNat_eq_natCast, tget_puts, h10]
    have h11 : tget t1 (Pos.ofNat 11) = lv := by rw [← ht]; simp [-Int.ofNat_eq_natCast, tget_puts, h11]
    have h12 : tget t1 (Pos.ofNat 12) = .int .i64 (.ofNat c) := by rw [← ht]; simp [-Int.ofNat_eq_natCast, tget_puts, h12]
    clear ht
    have hlz : (zcells ws).length = n + 1 := by rw [zcells_length, hw]
    refine WO.go (v := lv) (H' := H) rfl rfl (fun rec => by simp [-Int.ofNat_eq_natCast, execA, write, quiet, AOpnd.ev, h11]) ?_
    obtain ⟨wv, H1, c1, r1, k1⟩ := ints_ok C hg.reads (Nat.le_refl _) (scal_zcells ws) (by rw [hlz]; omega)
    refine WO.call (v := wv) (H' := H1) rfl (by simpa [-Int.ofNat_eq_natCast, evs, AOpnd.ev, tget_puts] using c1) ?_
    refine WO.go (v := wv) (H' := H1) rfl rfl (fun rec => by simp [-Int.ofNat_eq_natCast, execA, write, quiet, AOpnd.ev, tget_puts]) (WO.nil ?_)
    generalize ht : tput _ (some (Pos.ofNat 13)) wv = t2
    have h0 : tget t2 (Pos.ofNat 0) = .int .i64 gen := by rw [← ht]; simp [-Int.ofNat_eq_natCast, tget_puts, h0]
    have h2 : tget t2 (Pos.ofNat 2) = .int .i64 at' := by rw [← ht]; simp [-Int.ofNat_eq_natCast, tget_puts, h2]
    have h3 : tget t2 (Pos.ofNat 3) = .int .i64 to' := by rw [← ht]; simp [-Int.ofNat_eq_natCast, tget_puts, h3]
    have h10 : tget t2 (Pos.ofNat 10) = .int .i64 (.ofNat n) := by rw [← ht]; simp [-Int.ofNat_eq_natCast, tget_puts, h10]
    have h11 : tget t2 (Pos.ofNat 11) = lv := by rw [← ht]; simp [-Int.ofNat_eq_natCast, tget_puts, h11]
    have h12 : tget t2 (Pos.ofNat 12) = .int .i64 (.ofNat c) := by rw [← ht]; simp [-Int.ofNat_eq_natCast, tget_puts, h12]
    have h13 : tget t2 (Pos.ofNat 13) = wv := by rw [← ht]; simp [-Int.ofNat_eq_natCast, tget_puts]
    clear ht
    -- the program's answer
    obtain ⟨lb, hlv⟩ : ∃ lb, lv = .sl lb 0 (n + 1) (n + 1) 1 := by
      rcases hg with ⟨_, e⟩ | ⟨b, e, _⟩
      · rw [e] at hlz; simp at hlz
      · exact ⟨b, by rw [e, hlz]⟩
    obtain ⟨wb, hwv⟩ : ∃ wb, wv = .sl wb 0 (n + 1) (n + 1) 0 := by
      obtain ⟨b, rest, e, _⟩ := r1
      exact ⟨b, by rw [e, hlz]⟩
    have hgr1 : Reads H1.nx.toNat H1 lv (zcells ws) := (hg.keep k1).reads
    have ztake : (zcells ws).take n = zcells (ws.take n) := by simp [zcells]
    have hcut : ∀ {K : AHeap} {bb : Pos} {sz : Nat}, Reads K.nx.toNat K (.sl bb 0 (n + 1) (n + 1) sz) (zcells ws) → Reads K.nx.toNat K (.sl bb 0 n (n + 1) 0) (zcells (ws.take n)) := by
      intro K bb sz h
      rw [← hlz] at h
      have := Reads.sub (cap' := n + 1) (sz' := 0) h (i := 0) (e := n) (by rw [hlz]; omega)
      simpa [ztake] using this
    have htl : (ws.take n).length = n := by rw [List.length_take]; omega
    refine W.seq (W.region ?_)
    refine WO.go (v := .int .i64 gen) (H' := H1) rfl rfl (fun rec => by simp [-Int.ofNat_eq_natCast, execA, write, quiet, AOpnd.ev, h0]) ?_
    refine WO.go (v := .sl lb 0 (n + 1) (n + 1) 1) (H' := H1) rfl rfl (fun rec => by simp [-Int.ofNat_eq_natCast, execA, write, quiet, AOpnd.ev, tget_puts, h11, hlv]) ?_
    refine WO.go (v := .int .i64 (.ofNat n)) (H' := H1) rfl rfl (fun rec => by simp [-Int.ofNat_eq_natCast, execA, write, quiet, AOpnd.ev, tget_puts, h10]) ?_
    refine WO.go (v := .int .i64 (.ofNat n)) (H' := H1) rfl rfl (fun rec => by simp [-Int.ofNat_eq_natCast, execA, write, quiet, AOpnd.ev, tget_puts, h10]) ?_
    refine WO.go (v := .int .i64 (.ofNat (n + 1))) (H' := H1) rfl rfl (fun rec => by simp [-Int.ofNat_eq_natCast, execA, write, quiet, AOpnd.ev, tget_puts, add_one (show n + 1 ≤ 9223372036854775807 by omega)]) ?_
    refine WO.go (v := .sl lb 0 n (n + 1) 0) (H' := H1) rfl rfl (fun rec => by simp only [execA, write]; rw [slice_cut (b := lb) (n := n) (by simp [AOpnd.ev, tget_puts]) (by simp [AOpnd.ev, tget_puts]) (by simp [AOpnd.ev, tget_puts])]) ?_
    obtain ⟨v2, H2, c2, e2, k2⟩ := encode_ok C (H := H1) (hcut (hlv ▸ hgr1)) (Nat.le_refl _) (.inr ⟨lb, 0, n + 1, 0, by rw [htl], .inl rfl, by rw [htl]; omega⟩) (by rw [htl]; omega) gen
    refine WO.call (v := v2) (H' := H2) rfl (by simpa [-Int.ofNat_eq_natCast, evs, AOpnd.ev, tget_puts] using c2) ?_
    have hwr2 : Reads H2.nx.toNat H2 wv (zcells ws) := (r1.reads.keep k2 (Nat.le_refl _)).mono k2.nx
    obtain ⟨v3, H3, c3, e3, k3⟩ := ref_encode C (H := H2) (hcut (hwv ▸ hwr2)) (Nat.le_refl _) (by rw [htl]; omega) gen
    obtain ⟨us, uss, en, hd, dt, hd', dt', rfl, rfl, q1, q2, q3, q4, q5, q6, q7⟩ := EncR.same e2 e3 k3 rfl
    have hgr3 : Reads H3.nx.toNat H3 lv (zcells ws) := ((hgr1.keep k2 (Nat.le_refl _)).mono k2.nx |>.keep k3 (Nat.le_refl _)).mono k3.nx
    have hwr3 : Reads H3.nx.toNat H3 wv (zcells ws) := (hwr2.keep k3 (Nat.le_refl _)).mono k3.nx
    refine WO.go (v := .tup [hd, dt, .int .i64 en]) (H' := H2) rfl rfl (fun rec => by simp [-Int.ofNat_eq_natCast, execA, write, quiet, AOpnd.ev, tget_puts]) ?_
    refine WO.go (v := hd) (H' := H2) rfl rfl (fun rec => by simp [execA, write, quiet, AOpnd.ev, tget_puts, lget]) ?_
    refine WO.go (v := dt) (H' := H2) rfl rfl (fun rec => by simp [execA, write, quiet, AOpnd.ev, tget_puts, lget]) ?_
    refine WO.go (v := .int .i64 en) (H' := H2) rfl rfl (fun rec => by simp [execA, write, quiet, AOpnd.ev, tget_puts, lget]) ?_
    refine WO.go (v := hd) (H' := H2) rfl rfl (fun rec => by simp [-Int.ofNat_eq_natCast, execA, write, quiet, AOpnd.ev, tget_puts]) ?_
    refine WO.go (v := dt) (H' := H2) rfl rfl (fun rec => by simp [-Int.ofNat_eq_natCast, execA, write, quiet, AOpnd.ev, tget_puts]) ?_
    refine WO.go (v := .int .i64 en) (H' := H2) rfl rfl (fun rec => by simp [-Int.ofNat_eq_natCast, execA, write, quiet, AOpnd.ev, tget_puts]) (WO.nil ?_)
    generalize ht : tput _ (some (Pos.ofNat 16)) (AVal.int .i64 en) = t3
    have h0 : tget t3 (Pos.ofNat 0) = .int .i64 gen := by rw [← ht]; simp [-Int.ofNat_eq_natCast, tget_puts, h0]
    have h2 : tget t3 (Pos.ofNat 2) = .int .i64 at' := by rw [← ht]; simp [-Int.ofNat_eq_natCast, tget_puts, h2]
    have h3 : tget t3 (Pos.ofNat 3) = .int .i64 to' := by rw [← ht]; simp [-Int.ofNat_eq_natCast, tget_puts, h3]
    have h10 : tget t3 (Pos.ofNat 10) = .int .i64 (.ofNat n) := by rw [← ht]; simp [-Int.ofNat_eq_natCast, tget_puts, h10]
    have h11 : tget t3 (Pos.ofNat 11) = lv := by rw [← ht]; simp [-Int.ofNat_eq_natCast, tget_puts, h11, hlv]
    have h12 : tget t3 (Pos.ofNat 12) = .int .i64 (.ofNat c) := by rw [← ht]; simp [-Int.ofNat_eq_natCast, tget_puts, h12]
    have h13 : tget t3 (Pos.ofNat 13) = wv := by rw [← ht]; simp [-Int.ofNat_eq_natCast, tget_puts, h13]
    have h14 : tget t3 (Pos.ofNat 14) = hd := by rw [← ht]; simp [-Int.ofNat_eq_natCast, tget_puts]
    have h15 : tget t3 (Pos.ofNat 15) = dt := by rw [← ht]; simp [-Int.ofNat_eq_natCast, tget_puts]
    have h16 : tget t3 (Pos.ofNat 16) = .int .i64 en := by rw [← ht]; simp [-Int.ofNat_eq_natCast, tget_puts]
    clear ht
    refine W.seq (W.region ?_)
    refine WO.go (v := .int .i64 gen) (H' := H2) rfl rfl (fun rec => by simp [-Int.ofNat_eq_natCast, execA, write, quiet, AOpnd.ev, h0]) ?_
    refine WO.go (v := .sl wb 0 (n + 1) (n + 1) 0) (H' := H2) rfl rfl (fun rec => by simp [-Int.ofNat_eq_natCast, execA, write, quiet, AOpnd.ev, tget_puts, h13, hwv]) ?_
    refine WO.go (v := .int .i64 (.ofNat n)) (H' := H2) rfl rfl (fun rec => by simp [-Int.ofNat_eq_natCast, execA, write, quiet, AOpnd.ev, tget_puts, h10]) ?_
    refine WO.go (v := .sl wb 0 n (n + 1) 0) (H' := H2) rfl rfl (fun rec => by simp only [execA, write]; rw [slice_cut0 (b := wb) (n := n) (by simp [AOpnd.ev, tget_puts]) (by simp [AOpnd.ev, tget_puts])]) ?_
    refine WO.call (v := .tup [hd', dt', .int .i64 en]) (H' := H3) rfl (by simpa [-Int.ofNat_eq_natCast, evs, AOpnd.ev, tget_puts] using c3) ?_
    refine WO.go (v := .tup [hd', dt', .int .i64 en]) (H' := H3) rfl rfl (fun rec => by simp [-Int.ofNat_eq_natCast, execA, write, quiet, AOpnd.ev, tget_puts]) ?_
    refine WO.go (v := hd') (H' := H3) rfl rfl (fun rec => by simp [execA, write, quiet, AOpnd.ev, tget_puts, lget]) ?_
    refine WO.go (v := dt') (H' := H3) rfl rfl (fun rec => by simp [execA, write, quiet, AOpnd.ev, tget_puts, lget]) ?_
    refine WO.go (v := .int .i64 en) (H' := H3) rfl rfl (fun rec => by simp [execA, write, quiet, AOpnd.ev, tget_puts, lget]) ?_
    refine WO.go (v := hd') (H' := H3) rfl rfl (fun rec => by simp [-Int.ofNat_eq_natCast, execA, write, quiet, AOpnd.ev, tget_puts]) ?_
    refine WO.go (v := dt') (H' := H3) rfl rfl (fun rec => by simp [-Int.ofNat_eq_natCast, execA, write, quiet, AOpnd.ev, tget_puts]) ?_
    refine WO.go (v := .int .i64 en) (H' := H3) rfl rfl (fun rec => by simp [-Int.ofNat_eq_natCast, execA, write, quiet, AOpnd.ev, tget_puts]) (WO.nil ?_)
    generalize ht : tput _ (some (Pos.ofNat 19)) (AVal.int .i64 en) = t4
    have h0 : tget t4 (Pos.ofNat 0) = .int .i64 gen := by rw [← ht]; simp [-Int.ofNat_eq_natCast, tget_puts, h0]
    have h2 : tget t4 (Pos.ofNat 2) = .int .i64 at' := by rw [← ht]; simp [-Int.ofNat_eq_natCast, tget_puts, h2]
    have h3 : tget t4 (Pos.ofNat 3) = .int .i64 to' := by rw [← ht]; simp [-Int.ofNat_eq_natCast, tget_puts, h3]
    have h10 : tget t4 (Pos.ofNat 10) = .int .i64 (.ofNat n) := by rw [← ht]; simp [-Int.ofNat_eq_natCast, tget_puts, h10]
    have h11 : tget t4 (Pos.ofNat 11) = lv := by rw [← ht]; simp [-Int.ofNat_eq_natCast, tget_puts, h11]
    have h12 : tget t4 (Pos.ofNat 12) = .int .i64 (.ofNat c) := by rw [← ht]; simp [-Int.ofNat_eq_natCast, tget_puts, h12]
    have h13 : tget t4 (Pos.ofNat 13) = wv := by rw [← ht]; simp [-Int.ofNat_eq_natCast, tget_puts, h13, hwv]
    have h14 : tget t4 (Pos.ofNat 14) = hd := by rw [← ht]; simp [-Int.ofNat_eq_natCast, tget_puts, h14]
    have h15 : tget t4 (Pos.ofNat 15) = dt := by rw [← ht]; simp [-Int.ofNat_eq_natCast, tget_puts, h15]
    have h16 : tget t4 (Pos.ofNat 16) = .int .i64 en := by rw [← ht]; simp [-Int.ofNat_eq_natCast, tget_puts, h16]
    have h17 : tget t4 (Pos.ofNat 17) = hd' := by rw [← ht]; simp [-Int.ofNat_eq_natCast, tget_puts]
    have h18 : tget t4 (Pos.ofNat 18) = dt' := by rw [← ht]; simp [-Int.ofNat_eq_natCast, tget_puts]
    have h19 : tget t4 (Pos.ofNat 19) = .int .i64 en := by rw [← ht]; simp [-Int.ofNat_eq_natCast, tget_puts]
    clear ht
    refine W.seq (W.region ?_)
    refine WO.go (v := lv) (H' := H3) rfl rfl (fun rec => by simp [-Int.ofNat_eq_natCast, execA, write, quiet, AOpnd.ev, h11]) ?_
    refine WO.go (v := wv) (H' := H3) rfl rfl (fun rec => by simp [-Int.ofNat_eq_natCast, execA, write, quiet, AOpnd.ev, tget_puts, h13]) ?_
    refine WO.call (v := .bool true) (H' := H3) rfl (by simpa [evs, AOpnd.ev, tget_puts] using same_ints C hgr3 hwr3 (by rw [hw]; omega)) ?_
    refine WO.go (v := .bool true) (H' := H3) rfl rfl (fun rec => by simp [-Int.ofNat_eq_natCast, execA, write, quiet, AOpnd.ev, tget_puts]) (WO.nil ?_)
    refine W.seq (W.region ?_)
    refine WO.go (v := hd) (H' := H3) rfl rfl (fun rec => by simp [-Int.ofNat_eq_natCast, execA, write, quiet, AOpnd.ev, tget_puts, h14]) ?_
    refine WO.go (v := hd') (H' := H3) rfl rfl (fun rec => by simp [-Int.ofNat_eq_natCast, execA, write, quiet, AOpnd.ev, tget_puts, h17]) ?_
    refine WO.call (v := .bool true) (H' := H3) rfl (by simpa [evs, AOpnd.ev, tget_puts] using same_bytes C q1 q2 q5) ?_
    refine WO.go (v := .bool true) (H' := H3) rfl rfl (fun rec => by simp [-Int.ofNat_eq_natCast, execA, write, quiet, AOpnd.ev, tget_puts]) (WO.nil ?_)
    refine W.seq (W.region ?_)
    refine WO.go (v := dt) (H' := H3) rfl rfl (fun rec => by simp [-Int.ofNat_eq_natCast, execA, write, quiet, AOpnd.ev, tget_puts, h15]) ?_
    refine WO.go (v := dt') (H' := H3) rfl rfl (fun rec => by simp [-Int.ofNat_eq_natCast, execA, write, quiet, AOpnd.ev, tget_puts, h18]) ?_
    refine WO.call (v := .bool true) (H' := H3) rfl (by simpa [evs, AOpnd.ev, tget_puts] using same_lists C q3 q4 q6 (by omega)) ?_
    refine WO.go (v := .bool true) (H' := H3) rfl rfl (fun rec => by simp [-Int.ofNat_eq_natCast, execA, write, quiet, AOpnd.ev, tget_puts]) (WO.nil ?_)
    generalize ht : tput _ (some (Pos.ofNat 22)) (AVal.bool true) = t5
    have h0 : tget t5 (Pos.ofNat 0) = .int .i64 gen := by rw [← ht]; simp [-Int.ofNat_eq_natCast, tget_puts, h0]
    have h2 : tget t5 (Pos.ofNat 2) = .int .i64 at' := by rw [← ht]; simp [-Int.ofNat_eq_natCast, tget_puts, h2]
    have h3 : tget t5 (Pos.ofNat 3) = .int .i64 to' := by rw [← ht]; simp [-Int.ofNat_eq_natCast, tget_puts, h3]
    have h10 : tget t5 (Pos.ofNat 10) = .int .i64 (.ofNat n) := by rw [← ht]; simp [-Int.ofNat_eq_natCast, tget_puts, h10]
    have h11 : tget t5 (Pos.ofNat 11) = lv := by rw [← ht]; simp [-Int.ofNat_eq_natCast, tget_puts, h11]
    have h12 : tget t5 (Pos.ofNat 12) = .int .i64 (.ofNat c) := by rw [← ht]; simp [-Int.ofNat_eq_natCast, tget_puts, h12]
    have h16 : tget t5 (Pos.ofNat 16) = .int .i64 en := by rw [← ht]; simp [-Int.ofNat_eq_natCast, tget_puts, h16]
    have h19 : tget t5 (Pos.ofNat 19) = .int .i64 en := by rw [← ht]; simp [-Int.ofNat_eq_natCast, tget_puts, h19]
    have h20 : tget t5 (Pos.ofNat 20) = .bool true := by rw [← ht]; simp [-Int.ofNat_eq_natCast, tget_puts]
    have h21 : tget t5 (Pos.ofNat 21) = .bool true := by rw [← ht]; simp [-Int.ofNat_eq_natCast, tget_puts]
    have h22 : tget t5 (Pos.ofNat 22) = .bool true := by rw [← ht]; simp [-Int.ofNat_eq_natCast, tget_puts]
    clear ht
    have wy : ∀ {t : PT AVal} {p : Pos}, tget t p = .bool false → wantedA t (some (p, false)) = some true := fun h => want_yes h
    refine W.seq (W.seq (W.region ?_))
    refine WO.go (v := .bool true) (H' := H3) rfl rfl (fun rec => by simp [-Int.ofNat_eq_natCast, execA, write, quiet, AOpnd.ev, h20]) ?_
    refine WO.go (v := .bool false) (H' := H3) rfl rfl (fun rec => by simp [-Int.ofNat_eq_natCast, execA, write, quiet, AOpnd.ev, tget_puts]) ?_
    refine WO.go (v := .bool false) (H' := H3) rfl rfl (fun rec => by simp [-Int.ofNat_eq_natCast, execA, write, quiet, AOpnd.ev, tget_puts]) ?_
    refine WO.go (v := .bool true) (H' := H3) (wy (by simp [tget_puts])) rfl (fun rec => by simp [-Int.ofNat_eq_natCast, execA, write, quiet, AOpnd.ev, tget_puts, h21]) ?_
    refine WO.go (v := .bool false) (H' := H3) (wy (by simp [tget_puts])) rfl (fun rec => by simp [-Int.ofNat_eq_natCast, execA, write, quiet, AOpnd.ev, tget_puts]) ?_
    refine WO.go (v := .bool false) (H' := H3) rfl rfl (fun rec => by simp [-Int.ofNat_eq_natCast, execA, write, quiet, AOpnd.ev, tget_puts]) ?_
    refine WO.go (v := .bool false) (H' := H3) rfl rfl (fun rec => by simp [-Int.ofNat_eq_natCast, execA, write, quiet, AOpnd.ev, tget_puts]) ?_
    refine WO.go (v := .bool true) (H' := H3) (wy (by simp [tget_puts])) rfl (fun rec => by simp [-Int.ofNat_eq_natCast, execA, write, quiet, AOpnd.ev, tget_puts, h22]) ?_
    refine WO.go (v := .bool false) (H' := H3) (wy (by simp [tget_puts])) rfl (fun rec => by simp [-Int.ofNat_eq_natCast, execA, write, quiet, AOpnd.ev, tget_puts]) ?_
    refine WO.go (v := .bool false) (H' := H3) rfl rfl (fun rec => by simp [-Int.ofNat_eq_natCast, execA, write, quiet, AOpnd.ev, tget_puts]) ?_
    refine WO.go (v := .bool false) (H' := H3) rfl rfl (fun rec => by simp [-Int.ofNat_eq_natCast, execA, write, quiet, AOpnd.ev, tget_puts]) ?_
    refine WO.go (v := .int .i64 en) (H' := H3) (wy (by simp [tget_puts])) rfl (fun rec => by simp [-Int.ofNat_eq_natCast, execA, write, quiet, AOpnd.ev, tget_puts, h16]) ?_
    refine WO.call (v := .int .i64 en) (H' := H3) (wy (by simp [tget_puts])) (by simpa [evs, AOpnd.ev, tget_puts] using num_ok C (.int .i64 en)) ?_
    refine WO.go (v := .int .i64 en) (H' := H3) (wy (by simp [tget_puts])) rfl (fun rec => by simp [-Int.ofNat_eq_natCast, execA, write, quiet, AOpnd.ev, tget_puts, h19]) ?_
    refine WO.go (v := .bool false) (H' := H3) (wy (by simp [tget_puts])) rfl (fun rec => by simp [-Int.ofNat_eq_natCast, execA, write, quiet, AOpnd.ev, tget_puts, neq_self]) ?_
    refine WO.go (v := .bool false) (H' := H3) rfl rfl (fun rec => by simp [-Int.ofNat_eq_natCast, execA, write, quiet, AOpnd.ev, tget_puts]) (WO.nil ?_)
    refine W.cond_false (by simp [AOpnd.ev, tget_puts]) (W.skip ?_)
    simp only [andThen]
    generalize ht : tput _ (some (Pos.ofNat 97)) (AVal.bool false) = t6
    have h0 : tget t6 (Pos.ofNat 0) = .int .i64 gen := by rw [← ht]; simp [-Int.ofNat_eq_natCast, tget_puts, h0]
    have h2 : tget t6 (Pos.ofNat 2) = .int .i64 at' := by rw [← ht]; simp [-Int.ofNat_eq_natCast, tget_puts, h2]
    have h3 : tget t6 (Pos.ofNat 3) = .int .i64 to' := by rw [← ht]; simp [-Int.ofNat_eq_natCast, tget_puts, h3]
    have h10 : tget t6 (Pos.ofNat 10) = .int .i64 (.ofNat n) := by rw [← ht]; simp [-Int.ofNat_eq_natCast, tget_puts, h10]
    have h11 : tget t6 (Pos.ofNat 11) = lv := by rw [← ht]; simp [-Int.ofNat_eq_natCast, tget_puts, h11]
    have h12 : tget t6 (Pos.ofNat 12) = .int .i64 (.ofNat c) := by rw [← ht]; simp [-Int.ofNat_eq_natCast, tget_puts, h12]
    clear ht
    have hg3 : Grows base H3 lv (zcells ws) := hg.keep (k1.trans ((k2.mono k1.nx).trans (k3.mono (Nat.le_trans k1.nx k2.nx))))
    have hb3 : base ≤ H3.nx.toNat := Nat.le_trans hb (Nat.le_trans k1.nx (Nat.le_trans k2.nx k3.nx))
    refine W.seq (W.region ?_)
    refine WO.go (v := .int .i64 (.ofNat n)) (H' := H3) rfl rfl (fun rec => by simp [-Int.ofNat_eq_natCast, execA, write, quiet, AOpnd.ev, h10]) ?_
    refine WO.go (v := .bool (decide (0 < (n : Int)))) (H' := H3) rfl rfl (fun rec => by simp [execA, write, quiet, AOpnd.ev, tget_puts, z_gtr]) (WO.nil ?_)
    by_cases hn0 : 0 < n
    · have hd0 : decide (0 < (n : Int)) = true := by simp; omega
      simp only [hd0]
      obtain ⟨j, hj, a1, a2⟩ := index_ok at' hn0 hn
      obtain ⟨b, H4, hlv', hst, hg4, k4⟩ := hg3.store (j := j) (w := .int .i64 to') (by rw [hlz]; omega) rfl
      refine W.cond_true (by simp [AOpnd.ev, tget_puts]) (W.region ?_)
      refine WO.go (v := .sl b 0 (zcells ws).length (zcells ws).length 1) (H' := H3) rfl rfl (fun rec => by simp [-Int.ofNat_eq_natCast, execA, write, quiet, AOpnd.ev, tget_puts, h11, ← hlv']) ?_
      refine WO.go (v := .int .i64 at') (H' := H3) rfl rfl (fun rec => by simp [-Int.ofNat_eq_natCast, execA, write, quiet, AOpnd.ev, tget_puts, h2]) ?_
      refine WO.go (v := .int .i64 (.ofNat n)) (H' := H3) rfl rfl (fun rec => by simp [-Int.ofNat_eq_natCast, execA, write, quiet, AOpnd.ev, tget_puts, h10]) ?_
      refine WO.go (v := .int .i64 (Int.tmod at' n)) (H' := H3) rfl rfl (fun rec => by simp [-Int.ofNat_eq_natCast, execA, write, quiet, AOpnd.ev, tget_puts, rem_ok at' hn0]) ?_
      refine WO.go (v := .int .i64 (.ofNat n)) (H' := H3) rfl rfl (fun rec => by simp [-Int.ofNat_eq_natCast, execA, write, quiet, AOpnd.ev, tget_puts, h10]) ?_
      refine WO.go (v := .int .i64 (Int.tmod at' n + n)) (H' := H3) rfl rfl (fun rec => by simp [-Int.ofNat_eq_natCast, execA, write, quiet, AOpnd.ev, tget_puts, a1]) ?_
      refine WO.go (v := .int .i64 (.ofNat n)) (H' := H3) rfl rfl (fun rec => by simp [-Int.ofNat_eq_natCast, execA, write, quiet, AOpnd.ev, tget_puts, h10]) ?_
      refine WO.go (v := .int .i64 (.ofNat j)) (H' := H3) rfl rfl (fun rec => by simp [-Int.ofNat_eq_natCast, execA, write, quiet, AOpnd.ev, tget_puts, rem_ok _ hn0, a2]) ?_
      refine WO.go (v := .int .i64 to') (H' := H3) rfl rfl (fun rec => by simp [-Int.ofNat_eq_natCast, execA, write, quiet, AOpnd.ev, tget_puts, h3]) ?_
      refine WO.go (v := .ptr b j) (H' := H3) rfl rfl (fun rec => by
        have hlt : Nat.blt j (zcells ws).length = true := blt_t (by rw [hlz]; omega)
        simp [-Int.ofNat_eq_natCast, execA, write, quiet, AOpnd.ev, tget_puts, natOf, hlt, off1, -Nat.add_eq, -Nat.mul_eq]) ?_
      refine WO.go (v := .undef) (H' := H4) rfl rfl (fun rec => by simp [-Int.ofNat_eq_natCast, execA, write, AOpnd.ev, tget_puts, vcellsO, hst]) (WO.nil ?_)
      simp only [inBlock]
      refine W.region ?_
      refine WO.go (v := .int .i64 (.ofNat c)) (H' := H4) rfl rfl (fun rec => by simp [-Int.ofNat_eq_natCast, execA, write, quiet, AOpnd.ev, tget_puts, h12, tput_none]) ?_
      refine WO.go (v := .int .i64 (.ofNat (c + 1))) (H' := H4) rfl rfl (fun rec => by simp [-Int.ofNat_eq_natCast, execA, write, quiet, AOpnd.ev, tget_puts, add_one (show c + 1 ≤ 9223372036854775807 by omega)]) ?_
      refine WO.go (v := .int .i64 (.ofNat (c + 1))) (H' := H4) rfl rfl (fun rec => by simp [-Int.ofNat_eq_natCast, execA, write, quiet, AOpnd.ev, tget_puts]) (WO.nil ?_)
      have hset : (zcells ws).set j (.int .i64 to') = zcells (ws.set j to') := by simp [zcells, List.map_set]
      exact ih (c := c + 1) (lv := lv) (ws := ws.set j to') (by omega) (by simp [tput_none, tget_puts, h0]) (by simp [tput_none, tget_puts, h2]) (by simp [tput_none, tget_puts, h3]) (by simp [-Int.ofNat_eq_natCast, tput_none, tget_puts, h10]) (by simp [tput_none, tget_puts, h11]) (by simp [tput_none, tget_puts]) (by simpa using hw) (hset ▸ hg4) (Nat.le_trans hb3 k4.nx)
    · have hd0 : decide (0 < (n : Int)) = false := by simp; omega
      simp only [hd0]
      refine W.cond_false (by simp [AOpnd.ev, tget_puts]) (W.skip ?_)
      simp only [inBlock]
      refine W.region ?_
      refine WO.go (v := .int .i64 (.ofNat c)) (H' := H3) rfl rfl (fun rec => by simp [-Int.ofNat_eq_natCast, execA, write, quiet, AOpnd.ev, tget_puts, h12]) ?_
      refine WO.go (v := .int .i64 (.ofNat (c + 1))) (H' := H3) rfl rfl (fun rec => by simp [-Int.ofNat_eq_natCast, execA, write, quiet, AOpnd.ev, tget_puts, add_one (show c + 1 ≤ 9223372036854775807 by omega)]) ?_
      refine WO.go (v := .int .i64 (.ofNat (c + 1))) (H' := H3) rfl rfl (fun rec => by simp [-Int.ofNat_eq_natCast, execA, write, quiet, AOpnd.ev, tget_puts]) (WO.nil ?_)
      exact ih (c := c + 1) (lv := lv) (ws := ws) (by omega) (by simp [tget_puts, h0]) (by simp [tget_puts, h2]) (by simp [tget_puts, h3]) (by simp [-Int.ofNat_eq_natCast, tget_puts, h10]) (by simp [tget_puts, h11]) (by simp [tget_puts]) hw hg3 hb3
end
end Go.Am
end

section
namespace Go.Am
open Go

/-- What stands behind the names. -/
abbrev encRest : ACode := .seq (.region g3r6) (.seq (.region g3r7) (.seq (.seq (.region g3r8) (.block 0 (.loop g3l21))) (.seq (.region g3r22) .ret)))
section
variable {E : Env} (C : CodeOk E)
include C
theorem enc_rest {gen at' to' : Int} {zs : List Int} {xv : AVal} {H : AHeap} {m : Nat} (hx : Reads m H xv (zcells zs)) (hm : m ≤ H.nx.toNat) (hn : zs.length ≤ 65536) {t : PT AVal} (h0 : tget t (Pos.ofNat 0) = .int .i64 gen) (h1 : tget t (Pos.ofNat 1) = xv) (h2 : tget t (Pos.ofNat 2) = .int .i64 at') (h3 : tget t (Pos.ofNat 3) = .int .i64 to') :
    W E encRest none ⟨t, []⟩ H (fun e a _H' => e = .ret ∧ a.ds = [] ∧ tget a.t (Pos.ofNat 8) = .bool true) := by
  refine W.seq (W.region ?_)
  refine WO.go (v := xv) (H' := H) rfl rfl (fun rec => by simp [-Int.ofNat_eq_natCast, execA, write, quiet, AOpnd.ev, h1]) ?_
  refine WO.go (v := .int .i64 (.ofNat zs.length)) (H' := H) rfl rfl (fun rec => by simp only [execA, write]; rw [hx.len (by simp [AOpnd.ev, tget_puts]), zcells_length]) ?_
  refine WO.go (v := .int .i64 (.ofNat zs.length)) (H' := H) rfl rfl (fun rec => by simp [-Int.ofNat_eq_natCast, execA, write, quiet, AOpnd.ev, tget_puts]) (WO.nil ?_)
  refine W.seq (W.region ?_)
  refine WO.go (v := xv) (H' := H) rfl rfl (fun rec => by simp [-Int.ofNat_eq_natCast, execA, write, quiet, AOpnd.ev, tget_puts, h1]) ?_
  obtain ⟨wv, H1, c1, r1, k1⟩ := ints_ok C hx hm (scal_zcells zs) (by rw [zcells_length]; omega)
  refine WO.call (v := wv) (H' := H1) rfl (by simpa [-Int.ofNat_eq_natCast, evs, AOpnd.ev, tget_puts] using c1) ?_
  refine WO.go (v := .sl H1.nx 0 1 1 0) (H' := (H1.new (.cells [.int .i64 (-77)] false false)).2) rfl rfl (fun rec => by simp only [execA, write]; rw [fill1 (v := .int .i64 (-77)) rfl rfl]; rfl) ?_
  obtain ⟨v', H', e3, g3, k3⟩ := append_full (by' := 8) (r1.keep (keep_new (x := .cells [.int .i64 (-77)] false false))) (src_new (l := [.int .i64 (-77)])) (by simp) (by rw [zcells_length]; simp; omega)
  have e3 : appendA (H1.new (AObj.cells [AVal.int IntKind.i64 (-77)] false false)).snd 1 8 wv (AVal.sl H1.nx 0 1 1 0) = some (v', H') := e3
  refine WO.go (v := v') (H' := H') rfl rfl (fun rec => by simp [-Int.ofNat_eq_natCast, execA, write, AOpnd.ev, tget_puts, e3]) ?_
  refine WO.go (v := v') (H' := H') rfl rfl (fun rec => by simp [-Int.ofNat_eq_natCast, execA, write, quiet, AOpnd.ev, tget_puts]) (WO.nil ?_)
  refine W.seq (W.seq (W.region ?_))
  refine WO.go (v := .int .i64 (.ofNat 0)) (H' := H') rfl rfl (fun rec => rfl) (WO.nil ?_)
  have hz : zcells zs ++ [.int .i64 (-77)] = zcells (zs ++ [-77]) := by simp [zcells]
  rw [hz] at g3
  refine W.block (W.mono (law_loop C (gen := gen) (at' := at') (to' := to') hn 2 (c := 0) (lv := v') (ws := zs ++ [-77]) (by omega) (by simp [tget_puts, h0]) (by simp [tget_puts, h2]) (by simp [tget_puts, h3]) (by simp [-Int.ofNat_eq_natCast, tget_puts]) (by simp [tget_puts]) (by simp [tget_puts]) (by simp) g3 k3.nx) ?_)
  rintro e ⟨t2, ds⟩ H2 ⟨rfl, hds⟩
  have hds : ds = [] := hds
  subst hds
  simp only [inBlock, andThen]
  refine W.seq (W.region ?_)
  refine WO.go (v := .bool true) (H' := H2) rfl rfl (fun rec => rfl) (WO.nil (W.ret ?_))
  exact ⟨rfl, rfl, by simp [tget_puts]⟩
end
end Go.Am
end
