/- Part of the proof: AmF12. -/
import Derived.Test.YtkajhokkaadiiaaGreatDoorFn5
set_option linter.unusedSimpArgs false
set_option linter.unusedVariables false
section
namespace Go.Am
open Go

section
variable {E : Env} (C : CodeOk E)
include C
theorem encode_ok {H : AHeap} {x : AVal} {zs : List Int} {n : Nat} (hx : Reads n H x (zcells zs)) (hn : n ≤ H.nx.toNat) (hsl : x = .snil ∧ zs = [] ∨ Sl x zs.length) (hl : zs.length ≤ 16777216) (gen : Int) :
    ∃ v H', CallS E 10 [.int .i64 gen, x] H v H' ∧ EncR gen zs v H' ∧ Keep H.nx.toNat H H' := by
  refine CallS.by_mark (R := fun v H' => EncR gen zs v H' ∧ Keep H.nx.toNat H H') (t0 := tput (tput .l (some (Pos.ofNat 0)) (.int .i64 gen)) (some (Pos.ofNat 1)) x) (C.s _ rfl) rfl C.f10 rfl ?_
  refine W.seq (W.region ?_)
  refine WO.go rfl rfl (fun rec => rfl) ?_
  refine WO.go rfl rfl (fun rec => rfl) ?_
  refine WO.go rfl rfl (fun rec => rfl) (WO.nil ?_)
  generalize ht : tput _ (some (Pos.ofNat 6)) _ = t1
  have h0 : tget t1 (Pos.ofNat 0) = .int .i64 gen := by rw [← ht]; simp [AOpnd.ev, tget_puts]
  have h1 : tget t1 (Pos.ofNat 1) = x := by rw [← ht]; simp [AOpnd.ev, tget_puts]
  clear ht
  have wy : ∀ {t : PT AVal} {p : Pos}, tget t p = .bool false → wantedA t (some (p, false)) = some true := fun h => want_yes h
  refine W.seq (W.region ?_)
  refine WO.go (v := x) (H' := H) rfl rfl (fun rec => by simp [-Int.ofNat_eq_natCast, execA, write, quiet, AOpnd.ev, h1]) ?_
  refine WO.go (v := .int .i64 (.ofNat zs.length)) (H' := H) rfl rfl (fun rec => by simp only [execA, write]; rw [hx.len (by simp [AOpnd.ev, tget_puts]), zcells_length]) ?_
  refine WO.go (v := .int .i64 (.ofNat zs.length)) (H' := H) rfl rfl (fun rec => by simp [-Int.ofNat_eq_natCast, execA, write, quiet, AOpnd.ev, tget_puts]) (WO.nil ?_)
  generalize ht : tput _ (some (Pos.ofNat 7)) _ = t2
  have h0 : tget t2 (Pos.ofNat 0) = .int .i64 gen := by rw [← ht]; simp [tget_puts, h0]
  have h1 : tget t2 (Pos.ofNat 1) = x := by rw [← ht]; simp [tget_puts, h1]
  have h7 : tget t2 (Pos.ofNat 7) = .int .i64 (.ofNat zs.length) := by rw [← ht]; simp [tget_puts]
  clear ht
  refine W.seq (W.seq (W.region ?_))
  refine WO.go (v := .int .i64 gen) (H' := H) rfl rfl (fun rec => by simp [-Int.ofNat_eq_natCast, execA, write, quiet, AOpnd.ev, h0]) ?_
  refine WO.go (v := .bool (decide (gen < 1))) (H' := H) rfl rfl (fun rec => by simp [-Int.ofNat_eq_natCast, execA, write, quiet, AOpnd.ev, tget_puts, z_lss]) ?_
  refine WO.go (v := .bool (decide (gen < 1))) (H' := H) rfl rfl (fun rec => by simp [-Int.ofNat_eq_natCast, execA, write, quiet, AOpnd.ev, tget_puts]) ?_
  by_cases hlow : gen < 1
  · have hd1 : decide (gen < 1) = true := by simp [hlow]
    simp only [hd1]
    refine WO.not (want_no (by simp [tget_puts])) ?_
    refine WO.not (want_no (by simp [tget_puts])) ?_
    refine WO.go (v := .bool true) (H' := H) rfl rfl (fun rec => by simp [execA, write, quiet, AOpnd.ev, tget_puts]) ?_
    refine WO.go (v := .bool true) (H' := H) rfl rfl (fun rec => by simp [execA, write, quiet, AOpnd.ev, tget_puts]) ?_
    refine WO.not (want_no (by simp [tget_puts])) ?_
    refine WO.not (want_no (by simp [tget_puts])) ?_
    refine WO.go (v := .bool true) (H' := H) rfl rfl (fun rec => by simp [execA, write, quiet, AOpnd.ev, tget_puts]) (WO.nil ?_)
    refine W.cond_true (by simp [AOpnd.ev, tget_puts]) (W.seq (W.region ?_))
    refine WO.go rfl rfl (fun rec => rfl) ?_
    refine WO.go rfl rfl (fun rec => rfl) ?_
    refine WO.go rfl rfl (fun rec => rfl) (WO.nil (W.ret ?_))
    exact ⟨.inr rfl, .inl ⟨rfl, .tup [.snil, .snil, .int .i64 191], by simp [resultA, g10, AOpnd.ev, tget_puts], .inl ⟨fun h => by have := h.1; omega, rfl⟩, Keep.refl _ _⟩⟩
  have hd1 : decide (gen < 1) = false := by simp [hlow]
  simp only [hd1]
  refine WO.go (v := .int .i64 gen) (H' := H) (wy (by simp [tget_puts])) rfl (fun rec => by simp [execA, write, quiet, AOpnd.ev, tget_puts, h0]) ?_
  refine WO.go (v := .bool (decide (2147483647 < gen))) (H' := H) (wy (by simp [tget_puts])) rfl (fun rec => by simp [execA, write, quiet, AOpnd.ev, tget_puts, z_gtr]) ?_
  refine WO.go (v := .bool (decide (2147483647 < gen))) (H' := H) rfl rfl (fun rec => by simp [execA, write, quiet, AOpnd.ev, tget_puts]) ?_
  refine WO.go (v := .bool (decide (2147483647 < gen))) (H' := H) rfl rfl (fun rec => by simp [execA, write, quiet, AOpnd.ev, tget_puts]) ?_
  by_cases hhigh : 2147483647 < gen
  · have hd2 : decide (2147483647 < gen) = true := by simp [hhigh]
    simp only [hd2]
    refine WO.not (want_no (by simp [tget_puts])) ?_
    refine WO.not (want_no (by simp [tget_puts])) ?_
    refine WO.go (v := .bool true) (H' := H) rfl rfl (fun rec => by simp [execA, write, quiet, AOpnd.ev, tget_puts]) (WO.nil ?_)
    refine W.cond_true (by simp [AOpnd.ev, tget_puts]) (W.seq (W.region ?_))
    refine WO.go rfl rfl (fun rec => rfl) ?_
    refine WO.go rfl rfl (fun rec => rfl) ?_
    refine WO.go rfl rfl (fun rec => rfl) (WO.nil (W.ret ?_))
    exact ⟨.inr rfl, .inl ⟨rfl, .tup [.snil, .snil, .int .i64 191], by simp [resultA, g10, AOpnd.ev, tget_puts], .inl ⟨fun h => by have := h.2.1; omega, rfl⟩, Keep.refl _ _⟩⟩
  have hd2 : decide (2147483647 < gen) = false := by simp [hhigh]
  simp only [hd2]
  refine WO.go (v := .int .i64 (.ofNat zs.length)) (H' := H) (wy (by simp [tget_puts])) rfl (fun rec => by simp [-Int.ofNat_eq_natCast, execA, write, quiet, AOpnd.ev, tget_puts, h7]) ?_
  have hlen : decide ((16777216 : Int) < (zs.length : Int)) = false := by simp; omega
  refine WO.go (v := .bool false) (H' := H) (wy (by simp [tget_puts])) rfl (fun rec => by simp [execA, write, quiet, AOpnd.ev, tget_puts, z_gtr, hlen]) ?_
  refine WO.go (v := .bool false) (H' := H) rfl rfl (fun rec => by simp [execA, write, quiet, AOpnd.ev, tget_puts]) (WO.nil ?_)
  refine W.cond_false (by simp [AOpnd.ev, tget_puts]) (W.skip ?_)
  refine W.seq (W.seq (W.region ?_))
  refine WO.go (v := x) (H' := H) rfl rfl (fun rec => by simp [-Int.ofNat_eq_natCast, execA, write, quiet, AOpnd.ev, tget_puts, h1]) ?_
  refine WO.go (v := .int .i64 (.ofNat zs.length)) (H' := H) rfl rfl (fun rec => by simp only [execA, write]; rw [hx.len (by simp [AOpnd.ev, tget_puts]), zcells_length]) ?_
  refine WO.go (v := .int .i64 (.ofNat 0)) (H' := H) rfl rfl (fun rec => rfl) (WO.nil ?_)
  refine W.block (W.mono (enc_check hx (by omega) (gen := .int .i64 gen) zs.length (i := 0) (by omega) (by simp [tget_puts, h0]) (by simp [tget_puts, h1]) (by simp [-Int.ofNat_eq_natCast, tget_puts, h7]) (by simp [tget_puts]) (by simp [-Int.ofNat_eq_natCast, tget_puts]) (by simp [tget_puts])) ?_)
  rintro e ⟨t3, ds⟩ H1 ⟨hds, rfl, hor⟩
  have hds : ds = [] := hds
  subst hds
  rcases hor with ⟨rfl, hall, h0, h1, h7⟩ | ⟨rfl, ⟨z, hz, hbad⟩, h4, h5, h6⟩
  rotate_left
  · simp only [inBlock, andThen]
    have h4 : tget t3 (Pos.ofNat 4) = .snil := h4
    have h5 : tget t3 (Pos.ofNat 5) = .snil := h5
    have h6 : tget t3 (Pos.ofNat 6) = .int .i64 191 := h6
    exact ⟨.inr trivial, .inl ⟨trivial, .tup [.snil, .snil, .int .i64 191], by simp [resultA, g10, h4, h5, h6], .inl ⟨fun h => hbad (h.2.2 z (by simpa using hz)), rfl⟩, Keep.refl _ _⟩⟩
  have hall : ∀ z ∈ zs, okz zs z := by simpa using hall
  have h0 : tget t3 (Pos.ofNat 0) = .int .i64 gen := h0
  have h1 : tget t3 (Pos.ofNat 1) = x := h1
  have h7 : tget t3 (Pos.ofNat 7) = .int .i64 (.ofNat zs.length) := h7
  have hgood : Good gen zs := ⟨by omega, by omega, hall⟩
  simp only [inBlock, andThen]
  rw [zcells_good hall] at hx
  generalize hns : zs.map Int.toNat = ns at hx
  have hnl : ns.length = zs.length := by rw [← hns]; simp
  have hsl' : x = .snil ∧ ns = [] ∨ Sl x ns.length := by
    rcases hsl with ⟨e1, rfl⟩ | h
    · exact .inl ⟨e1, by rw [← hns]; rfl⟩
    · exact .inr (by rw [hnl]; exact h)
  obtain ⟨g, hg⟩ : ∃ g : Nat, gen = .ofNat g := ⟨gen.toNat, (Int.toNat_of_nonneg (by omega)).symm⟩
  rw [hg] at h0
  -- the box of the data
  refine W.seq (W.region ?_)
  refine WO.go (v := .ptr H1.nx 0) (H' := (H1.new (.cells [.snil] false false)).2) rfl rfl (fun rec => rfl) (WO.nil ?_)
  have gA : PT.get H1.nx (H1.new (.cells [.snil] false false)).2.t = some (.cells [.snil] false false) := get_new
  have nA : (H1.new (.cells [.snil] false false)).2.nx.toNat = H1.nx.toNat + 1 := nx_new
  have kA : Keep H1.nx.toNat H1 (H1.new (.cells [.snil] false false)).2 := keep_new
  generalize (H1.new (.cells [.snil] false false)).2 = HA at gA nA kA
  refine W.seq (W.seq (W.region ?_))
  refine WO.go (v := x) (H' := HA) rfl rfl (fun rec => by simp [-Int.ofNat_eq_natCast, execA, write, quiet, AOpnd.ev, tget_puts, h1]) ?_
  refine WO.call (v := .func 68 [] [.ptr HA.nx 0, .ptr (HA.new (.cells [x] false false)).2.nx 0]) (H' := (((HA.new (.cells [x] false false)).2).new (.cells [.int .i64 (.ofNat 200)] false false)).2) rfl (by
    have := chunk_make C (H := HA) (x := x) hx.scal
    simpa [-Int.ofNat_eq_natCast, evs, AOpnd.ev, tget_puts] using this) (WO.nil ?_)
  have gB : PT.get HA.nx (HA.new (.cells [x] false false)).2.t = some (.cells [x] false false) := get_new
  have nB : (HA.new (.cells [x] false false)).2.nx.toNat = HA.nx.toNat + 1 := nx_new
  have kB : Keep HA.nx.toNat HA (HA.new (.cells [x] false false)).2 := keep_new
  generalize (HA.new (.cells [x] false false)).2 = HB at gB nB kB
  have gD : PT.get HB.nx (HB.new (.cells [.int .i64 (.ofNat 200)] false false)).2.t = some (.cells [.int .i64 (.ofNat 200)] false false) := get_new
  have nD : (HB.new (.cells [.int .i64 (.ofNat 200)] false false)).2.nx.toNat = HB.nx.toNat + 1 := nx_new
  have kD : Keep HB.nx.toNat HB (HB.new (.cells [.int .i64 (.ofNat 200)] false false)).2 := keep_new
  generalize (HB.new (.cells [.int .i64 (.ofNat 200)] false false)).2 = HD at gD nD kD
  generalize htm : tput _ (some (Pos.ofNat 39)) _ = tm
  have m0 : tget tm (Pos.ofNat 0) = .int .i64 (.ofNat g) := by rw [← htm]; simp [-Int.ofNat_eq_natCast, tget_puts, h0]
  have m1 : tget tm (Pos.ofNat 1) = x := by rw [← htm]; simp [tget_puts, h1]
  have m7 : tget tm (Pos.ofNat 7) = .int .i64 (.ofNat zs.length) := by rw [← htm]; simp [-Int.ofNat_eq_natCast, tget_puts, h7]
  have m10 : tget tm (Pos.ofNat 10) = .ptr H1.nx 0 := by rw [← htm]; simp [tget_puts]
  have m39 : tget tm (Pos.ofNat 39) = .func 68 [] [.ptr HA.nx 0, .ptr HB.nx 0] := by rw [← htm]; simp [tget_puts]
  clear htm
  refine W.block (W.rangeFunc (g := 68) (first := []) (caps := [.ptr HA.nx 0, .ptr HB.nx 0]) (by simpa [AOpnd.ev] using m39) ?_)
  have gM : PT.get HD.nx (HD.new (.dfr true)).2.t = some (.dfr true) := get_new
  have nM : (HD.new (.dfr true)).2.nx.toNat = HD.nx.toNat + 1 := nx_new
  have kM : Keep HD.nx.toNat HD (HD.new (.dfr true)).2 := keep_new
  generalize (HD.new (.dfr true)).2 = HM at gM nM kM
  obtain ⟨r, hr⟩ : ∃ r : ALoop, r = ⟨.ready, .none, tm, [Pos.ofNat 40], .region g10r13, g10b15, HD.nx⟩ := ⟨_, rfl⟩
  have gL : PT.get HM.nx (HM.new (.loop ⟨.ready, .none, tm, [Pos.ofNat 40], .region g10r13, g10b15, HD.nx⟩)).2.t = some (.loop r) := by rw [hr]; exact get_new
  have nL : (HM.new (.loop ⟨.ready, .none, tm, [Pos.ofNat 40], .region g10r13, g10b15, HD.nx⟩)).2.nx.toNat = HM.nx.toNat + 1 := nx_new
  have kL : Keep HM.nx.toNat HM (HM.new (.loop ⟨.ready, .none, tm, [Pos.ofNat 40], .region g10r13, g10b15, HD.nx⟩)).2 := keep_new
  show ∃ v h3, CallFS E 68 [.yld HM.nx, .ptr HA.nx 0, .ptr HB.nx 0] (HM.new (.loop ⟨.ready, .none, tm, [Pos.ofNat 40], .region g10r13, g10b15, HD.nx⟩)).2 v h3 ∧ _
  generalize (HM.new (.loop ⟨.ready, .none, tm, [Pos.ofNat 40], .region g10r13, g10b15, HD.nx⟩)).2 = HL at gL nL kL
  have kAll : Keep H1.nx.toNat H1 HL := kA.trans ((kB.mono (by omega)).trans ((kD.mono (by omega)).trans ((kM.mono (by omega)).trans (kL.mono (by omega)))))
  have dne : ∀ {p q : Pos}, p.toNat ≠ q.toNat → p ≠ q := fun h e => h (by rw [e])
  have gA' : PT.get H1.nx HL.t = some (.cells [.snil] false false) := by
    rw [kL.get _ (by omega), kM.get _ (by omega), kD.get _ (by omega), kB.get _ (by omega), gA]
  have gB' : PT.get HA.nx HL.t = some (.cells [x] false false) := by
    rw [kL.get _ (by omega), kM.get _ (by omega), kD.get _ (by omega), gB]
  have gD' : PT.get HB.nx HL.t = some (.cells [.int .i64 (.ofNat 200)] false false) := by
    rw [kL.get _ (by omega), kM.get _ (by omega), gD]
  have gM' : PT.get HD.nx HL.t = some (.dfr true) := by
    rw [kL.get _ (by omega), gM]
  obtain ⟨v5, H5, c5, dv, hB5, hl5, k5⟩ := chunk_call C (n := HL.nx.toNat) (m := H1.nx.toNat) (bs := HA.nx) (bn := HB.nx) (lp := HM.nx) (pd := H1.nx) (r := r) (x := x) (l := ns) (Hs := HL) (dv := .snil) (by omega) ((hx.keep kAll hn).mono hn) hsl'
    (Nat.le_refl _) (by omega) (by omega) (by omega) (by omega) (by omega) (dne (by omega)) (dne (by omega)) (dne (by omega)) (dne (by omega)) (dne (by omega)) gB' gD'
    (by rw [hr]; exact ⟨rfl, rfl, rfl, rfl, rfl, m10⟩) ⟨gA', by omega, Nat.le_refl _, GL.nil⟩ gL
  refine ⟨v5, H5, c5, r, hl5, by rw [hr], by rw [hr], ?_⟩
  simp only [inBlock, andThen]
  have hget6 : ∀ b : Pos, b ≠ HM.nx → PT.get b (H5.kill HM.nx).t = PT.get b H5.t := fun b hb => PT.get_set_other _ _ _ _ (Ne.symm hb)
  have hgl6 : GL HL.nx.toNat (H5.kill HM.nx) dv (chs ns (kc ns)) := hB5.gl.of_ge (fun b hb _ => hget6 b (dne (by omega))) (Nat.le_refl _)
  have hbox6 : PT.get H1.nx (H5.kill HM.nx).t = some (.cells [dv] false false) := by rw [hget6 _ (dne (by omega))]; exact hB5.box
  have hmk6 : PT.get HD.nx (H5.kill HM.nx).t = some (.dfr true) := by rw [hget6 _ (dne (by omega)), k5.get _ (by omega) (dne (by omega)) (dne (by omega))]; exact gM'
  have kAll6 : Keep H1.nx.toNat H1 (H5.kill HM.nx) := kAll.trans ((k5.keep (by omega) (Nat.le_refl _) (by omega)).trans (keep_kill (by omega)))
  have hnx6 : HL.nx.toNat ≤ (H5.kill HM.nx).nx.toNat := k5.nx
  generalize H5.kill HM.nx = H6 at hgl6 hbox6 hmk6 kAll6 hnx6
  clear hB5 hl5 k5 c5 gL gA' gB' gD' gM'
  refine W.seq (W.draw ?_)
  have hld : ∀ {K : AHeap}, Keep H6.nx.toNat H6 K → hload K H1.nx 0 = some dv := by
    intro K hK
    unfold hload
    rw [hK.get _ (by omega), hbox6]
    rfl
  have hsame : same dv dv = true := by
    obtain ⟨vs, gg, _⟩ := hgl6
    have hpb : ∀ b : Pos, Pos.beq b b = true := fun b => Pos.beq_eq.2 rfl
    rcases gg with ⟨rfl, _⟩ | ⟨b, rfl, _⟩ <;> simp [same, hpb]
  have hld6 := hld (Keep.refl _ _)
  refine WD.quiet (v := .int .i64 (.ofNat g)) rfl (by simp [-Int.ofNat_eq_natCast, quiet, AOpnd.ev, m0]) ?_
  refine WD.quiet (v := .int .i64 (.ofNat zs.length)) rfl (by simp [-Int.ofNat_eq_natCast, quiet, AOpnd.ev, tget_puts, m7]) ?_
  refine WD.quiet (v := x) rfl (by simp [quiet, AOpnd.ev, tget_puts, m1]) ?_
  refine WD.quiet (v := dv) rfl (by simp [quiet, AOpnd.ev, tget_puts, m10, hld6]) ?_
  generalize hs1 : tput tm (some (Pos.ofNat 50)) (.int .i64 (.ofNat g)) = s1
  generalize hs2 : tput s1 (some (Pos.ofNat 51)) (.int .i64 (.ofNat zs.length)) = s2
  generalize hs3 : tput s2 (some (Pos.ofNat 52)) x = s3
  have q0 : quiet tm H6 (.move (.t (Pos.ofNat 0))) = some (.int .i64 (.ofNat g)) := by simp [-Int.ofNat_eq_natCast, quiet, AOpnd.ev, m0]
  have q7 : quiet s1 H6 (.move (.t (Pos.ofNat 7))) = some (.int .i64 (.ofNat zs.length)) := by rw [← hs1]; simp [-Int.ofNat_eq_natCast, quiet, AOpnd.ev, tget_puts, m7]
  have q10 : ∀ {K : AHeap}, Keep H6.nx.toNat H6 K → quiet s3 K (.load1 (.t (Pos.ofNat 10))) = some dv := by
    intro K hK
    rw [← hs3, ← hs2, ← hs1]
    simp [quiet, AOpnd.ev, tget_puts, m10, hld hK]
  refine WD.loud (v := .int .i64 (.ofNat (gmax ns))) (H' := H6) (seen' := [⟨s3, .load1 (.t (Pos.ofNat 10)), dv, 64⟩, ⟨s1, .move (.t (Pos.ofNat 7)), .int .i64 (.ofNat zs.length), 2⟩, ⟨tm, .move (.t (Pos.ofNat 0)), .int .i64 (.ofNat g), 1⟩]) rfl ?_ ?_ ?_
  · obtain ⟨n0, hc⟩ := greatest_ok C ((hx.keep kAll6 hn)) (by omega)
    refine ⟨n0, fun q hq => ?_⟩
    simp only [execA]
    have := hc q hq
    simpa [-Int.ofNat_eq_natCast, evs, AOpnd.ev, tget_puts, ← hs3] using this
  · have e1 : Nat.beq (Nat.land 4 64) 0 = true := rfl
    have e2 : Nat.beq (Nat.land 4 4) 0 = false := rfl
    have e3 : Nat.beq (Nat.land 4 2) 0 = true := rfl
    have e4 : Nat.beq (Nat.land 4 1) 0 = true := rfl
    simp only [again, e1, e2, e3, e4, q0, q7, q10 (Keep.refl _ _), hsame, same_int]
  refine WD.new (v := .sl H6.nx 0 3 3 0) (H' := (H6.new (.cells (icells [g, zs.length, gmax ns]) false false)).2) rfl (by
    simp only [write]
    rw [fill3 (x := g) (y := zs.length) (z := gmax ns) (by rw [← hs3, ← hs2, ← hs1]; simp [-Int.ofNat_eq_natCast, AOpnd.ev, tget_puts]) (by rw [← hs3, ← hs2]; simp [-Int.ofNat_eq_natCast, AOpnd.ev, tget_puts]) (by simp [-Int.ofNat_eq_natCast, AOpnd.ev, tget_puts])]
    rfl) ?_
  have k7 : Keep H6.nx.toNat H6 (H6.new (.cells (icells [g, zs.length, gmax ns]) false false)).2 := keep_new
  have r7 : Reads (H6.new (.cells (icells [g, zs.length, gmax ns]) false false)).2.nx.toNat (H6.new (.cells (icells [g, zs.length, gmax ns]) false false)).2 (.sl H6.nx 0 3 3 0) (icells [g, zs.length, gmax ns]) := by
    refine .inr ⟨H6.nx, 0, 3, 0, rfl, ?_, by rw [nx_new]; omega, .inl rfl, Nat.le_refl _⟩
    unfold hloadN
    rw [get_new]
    rfl
  have n7 : (H6.new (.cells (icells [g, zs.length, gmax ns]) false false)).2.nx.toNat = H6.nx.toNat + 1 := nx_new
  generalize (H6.new (.cells (icells [g, zs.length, gmax ns]) false false)).2 = H7 at k7 r7 n7
  obtain ⟨vh, H8, c8, b8, k8⟩ := four_ok C (n := H7.nx.toNat) (us := []) (v := .snil) r7 (Nat.le_refl _) (Nat.le_refl _) (by simp) (by simp) (.inl (.inl ⟨rfl, rfl⟩))
  have k68 : Keep H6.nx.toNat H6 H8 := k7.trans (k8.mono (by omega))
  refine WD.loud (v := vh) (H' := H8) (seen' := [⟨s3, .load1 (.t (Pos.ofNat 10)), dv, 64⟩]) rfl ?_ ?_ ?_
  · obtain ⟨n0, hc⟩ := c8
    refine ⟨n0, fun q hq => ?_⟩
    simp only [execA]
    have := hc q hq
    simpa [-Int.ofNat_eq_natCast, evs, AOpnd.ev, tget_puts] using this
  · have e1 : Nat.beq (Nat.land 31 64) 0 = true := rfl
    have e3 : Nat.beq (Nat.land 31 2) 0 = false := rfl
    have e4 : Nat.beq (Nat.land 31 1) 0 = false := rfl
    simp only [again, e1, e3, e4, q10 k68, hsame]
  refine WD.quiet (v := vh) rfl (by simp [quiet, AOpnd.ev, tget_puts]) ?_
  refine WD.quiet (v := dv) rfl (by simp [quiet, AOpnd.ev, tget_puts]) ?_
  refine WD.quiet (v := .int .i64 0) rfl rfl (WD.nil (W.ret ?_))
  refine ⟨.inr rfl, .inr ⟨HD.nx, rfl, by rw [k68.get _ (by omega)]; exact hmk6, .tup [vh, dv, .int .i64 0], by simp [resultA, g10, tget_puts], .inr ⟨hgood, vh, dv, rfl, ?_, ?_⟩, ?_⟩⟩
  · rw [hns, hg]
    have hrd := b8.reads
    have : ∀ b : Pos, H7.nx.toNat ≤ b.toNat → PT.get b (H8.kill HD.nx).t = PT.get b H8.t := fun b hb => PT.get_set_other _ _ _ _ (dne (by omega))
    rcases b8 with gg | ⟨cap', gg, _⟩
    · rcases gg with gg | ⟨b, e, gg, hb1, hb2⟩
      · exact .inl (by simpa using gg)
      · have hk := Grows.reads (n := H7.nx.toNat) (H := H8.kill HD.nx) (.inr ⟨b, e, by rw [this b hb1]; exact gg, hb1, hb2⟩)
        simpa using hk
    · obtain ⟨b, rest, e, gg, hcap, hb1, hb2⟩ := gg
      have hk := Room.reads (n := H7.nx.toNat) (H := H8.kill HD.nx) ⟨b, rest, e, by rw [this b hb1]; exact gg, hcap, hb1, hb2⟩
      simpa using hk
  · rw [hns]
    have hg8 := hgl6.keep k68
    exact (hg8.of_ge (H' := H8.kill HD.nx) (fun b hb _ => PT.get_set_other _ _ _ _ (dne (by omega))) (Nat.le_refl _)).lists
  · exact (kAll6.trans (k68.mono (by omega))).trans (keep_kill (by omega))
end
end Go.Am
end
