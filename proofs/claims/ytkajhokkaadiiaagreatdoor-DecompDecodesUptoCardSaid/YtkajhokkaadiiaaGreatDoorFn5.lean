/- Part of the proof: AmF10, AmF11. -/
import Derived.Test.YtkajhokkaadiiaaGreatDoorFn4
set_option linter.unusedSimpArgs false
set_option linter.unusedVariables false
section
namespace Go.Am
open Go

section
variable {E : Env}
theorem CallFS.by {f : FuncId} {fi : AFun} (hf : Nat.blt f 2147483648 = true) (hg : PT.get (Pos.ofNat f) E.fns = some fi) {args : List AVal} {t0 : PT AVal} (ha : args0 args 0 fi.ntmps .l = some t0) {H : AHeap} {R : AVal → AHeap → Prop}
    (hb : W E fi.body none ⟨t0, []⟩ H (fun e a' H' => (e = .normal ∨ e = .ret) ∧ a'.ds = [] ∧ ∃ v, (match resultA a'.t H' fi.results with | some [v] => some v | some l => some (.tup l) | none => none) = some v ∧ R v H')) : ∃ v H', CallFS E f args H v H' ∧ R v H' := by
  obtain ⟨e, ⟨t, ds⟩, H', h, he, hds, v, hr, q⟩ := hb
  have hds : ds = [] := hds
  subst hds
  exact ⟨v, H', CallFS.of hf hg ha he h hr, q⟩
end

theorem add_nat {i k : Nat} (h : i + k ≤ 9223372036854775807) : binOpA .add (.int .i64 (.ofNat i)) (.int .i64 (.ofNat k)) = some (.int .i64 (.ofNat (i + k))) := add_ok h
theorem mm_min (b : Nat) : mmA false (.int .i64 (.ofNat 200)) [.int .i64 (.ofNat b)] = some (.int .i64 (.ofNat (min 200 b))) := by
  show some (AVal.int .i64 (match Nat.blt b 200 with | true => .ofNat b | false => .ofNat 200)) = _
  by_cases h : b < 200
  · rw [blt_t h]; simp only; rw [Nat.min_eq_right (by omega)]
  · rw [blt_f (by omega)]; simp only; rw [Nat.min_eq_left (by omega)]
theorem slice_lo {t : PT AVal} {H : AHeap} {X Y : AOpnd} {b : Pos} {o len cap sz i : Nat} (hX : X.ev t = .sl b o len cap sz) (hY : Y.ev t = .int .i64 (.ofNat i)) (hs : sz = 0 ∨ sz = 1) (hi : i < len) (hc : len ≤ cap) :
    quiet t H (.slice (.sl 1) X (some Y) none none) = some (.sl b (o + i) (len - i) (cap - i) sz) := by
  have e1 : Nat.ble i len = true := ble_t (by omega)
  have e2 : Nat.beq cap i = false := beq_f (by omega)

  rcases hs with rfl | rfl
  · simp only [quiet, sliceA, hX, boundOf, hY, natOf, e1, e2, off1, nsub]
  · simp only [quiet, sliceA, hX, boundOf, hY, natOf, e1, off1, nsub]
theorem slice_mid {t : PT AVal} {H : AHeap} {X Y Z V : AOpnd} {b : Pos} {o len cap sz i e : Nat} (hX : X.ev t = .sl b o len cap sz) (hY : Y.ev t = .int .i64 (.ofNat i)) (hZ : Z.ev t = .int .i64 (.ofNat (i + e))) (hV : V.ev t = .int .i64 (.ofNat (i + e))) (hs : sz = 0 ∨ sz = 1) (he : 0 < e) (hc : i + e ≤ cap) :
    quiet t H (.slice (.sl 1) X (some Y) (some Z) (some V)) = some (.sl b (o + i) e e 0) := by
  have e1 : Nat.ble (i + e) cap = true := ble_t hc
  have e4 : Nat.ble (i + e) (i + e) = true := ble_t (Nat.le_refl _)
  have e5 : Nat.ble i (i + e) = true := ble_t (by omega)
  have e2 : Nat.beq (i + e) i = false := beq_f (by omega)

  have e6 : i + e - i = e := by omega
  rcases hs with rfl | rfl
  · simp only [quiet, sliceA, hX, boundOf, hY, hZ, hV, natOf, e1, e2, e4, e5, off1, nsub, e6]
  · simp only [quiet, sliceA, hX, boundOf, hY, hZ, hV, natOf, e1, e2, e4, e5, off1, nsub, e6]
theorem Reads.sub {m : Nat} {H : AHeap} {b : Pos} {o cap sz cap' sz' : Nat} {L : List AVal} (h : Reads m H (.sl b o L.length cap sz) L) {i e : Nat} (hi : i + e ≤ L.length) (hc : (sz' = 0 ∨ sz' = 1) ∧ e ≤ cap') : Reads m H (.sl b (o + i) e cap' sz') ((L.drop i).take e) := by
  rcases h with ⟨h, _⟩ | ⟨b', o', c', s', he, h, hb⟩
  · cases h
  · cases he
    refine .inr ⟨b, o + i, cap', sz', ?_, ?_, hb.1, hc.1, by simp; omega⟩
    · have : ((L.drop i).take e).length = e := by simp; omega
      rw [this]
    · have hlen : ((L.drop i).take e).length = e := by simp; omega
      rw [hlen]
      unfold hloadN at h ⊢
      split at h
      · rename_i cs _ _ hg
        obtain ⟨h1, h2⟩ := lsub_eq h
        rw [lsub_of (by omega)]
        congr 1
        rw [h1, List.drop_take, List.drop_drop, List.take_take]
        congr 1
        omega
      · cases h
theorem icells_sub (l : List Nat) (i e : Nat) : ((icells l).drop i).take e = icells ((l.drop i).take e) := by simp [icells]

/-- A slice whose room is told. -/
def Sl (x : AVal) (len : Nat) : Prop := ∃ b o cap sz, x = .sl b o len cap sz ∧ (sz = 0 ∨ sz = 1) ∧ len ≤ cap

section
variable {E : Env} (C : CodeOk E)
include C
theorem chunk_loop {n m : Nat} {bs bn lp pd : Pos} {r : ALoop} {x : AVal} {l : List Nat} {Hs : AHeap} (hl : l.length ≤ 1073741824) (hx : Reads m Hs x (icells l)) (hsl : x = .snil ∧ l = [] ∨ Sl x l.length)
    (hmp : m ≤ pd.toNat) (hml : m ≤ lp.toNat) (hpn : pd.toNat < n) (hln : lp.toNat < n) (hbs : bs.toNat < n) (hbn : bn.toNat < n) (h1 : bs ≠ pd) (h2 : bs ≠ lp) (h3 : bn ≠ pd) (h4 : bn ≠ lp) (h5 : pd ≠ lp)
    (gs : PT.get bs Hs.t = some (.cells [x] false false)) (gn : PT.get bn Hs.t = some (.cells [.int .i64 (.ofNat 200)] false false))
    (hr : r.state = .ready ∧ r.pending = .none ∧ r.params = [Pos.ofNat 40] ∧ r.assign = .region g10r13 ∧ r.body = g10b15 ∧ tget r.tmps (Pos.ofNat 10) = .ptr pd 0) (d : Nat) :
    ∀ {k : Nat} {t : PT AVal} {dv : AVal} {H1 : AHeap} {ro : Option Pos}, k + d = kc l → tget t (Pos.ofNat 0) = .yld lp → tget t (Pos.ofNat 1) = .ptr bs 0 → tget t (Pos.ofNat 2) = .ptr bn 0 → tget t (Pos.ofNat 4) = .int .i64 (.ofNat (200 * k)) →
      Box n pd H1 dv (chs l k) → PT.get lp H1.t = some (.loop r) → Keep2 n pd lp Hs H1 →
    W E (.loop g68l5) ro ⟨t, []⟩ H1 (fun e a H' => e = .exit 0 ∧ a.ds = [] ∧ ∃ dv', Box n pd H' dv' (chs l (kc l)) ∧ PT.get lp H'.t = some (.loop r) ∧ Keep2 n pd lp Hs H') := by
  have hld : ∀ {b : Pos} {v : AVal} {H1 : AHeap}, b.toNat < n → b ≠ pd → b ≠ lp → Keep2 n pd lp Hs H1 → PT.get b Hs.t = some (.cells [v] false false) → hload H1 b 0 = some v := by
    intro b v H1 hb e1 e2 hk hg
    unfold hload
    rw [hk.get b hb e1 e2, hg]
    rfl
  have hxk : ∀ {H1 : AHeap}, Keep2 n pd lp Hs H1 → Reads m H1 x (icells l) := by
    intro H1 hk
    rcases hx with hx | ⟨b, o, cap, sz, e, hx, hb⟩
    · exact .inl hx
    · refine .inr ⟨b, o, cap, sz, e, ?_, hb⟩
      unfold hloadN at hx ⊢
      rw [hk.get b (by omega) (fun e => by subst e; omega) (fun e => by subst e; omega)]
      exact hx
  induction d with
  | zero =>
    intro k t dv H1 ro hk t0 t1 t2 t4 hB hlp hkeep
    have hge : l.length ≤ 200 * k := by unfold kc at hk; omega
    have hls := hld hbs h1 h2 hkeep gs
    refine W.loop (W.seq (W.seq (W.region ?_)))
    refine WO.go (v := .int .i64 (.ofNat (200 * k))) (H' := H1) rfl rfl (fun rec => by simp [-Int.ofNat_eq_natCast, execA, write, quiet, AOpnd.ev, t4]) ?_
    refine WO.go (v := x) (H' := H1) rfl rfl (fun rec => by simp [-Int.ofNat_eq_natCast, execA, write, quiet, AOpnd.ev, tget_puts, t1, hls]) ?_
    refine WO.go (v := .int .i64 (.ofNat l.length)) (H' := H1) rfl rfl (fun rec => by simp only [execA, write]; rw [(hxk hkeep).len (by simp [AOpnd.ev, tget_puts]), icells_length]) ?_
    refine WO.go (v := .bool false) (H' := H1) rfl rfl (fun rec => by simp [-Int.ofNat_eq_natCast, execA, write, quiet, AOpnd.ev, tget_puts, lss_f hge]) (WO.nil ?_)
    refine W.cond_false (by simp [AOpnd.ev, tget_puts]) (W.exit ?_)
    have hkk : k = kc l := by omega
    subst hkk
    exact ⟨rfl, rfl, dv, hB, hlp, hkeep⟩
  | succ d ih =>
    intro k t dv H1 ro hk t0 t1 t2 t4 hB hlp hkeep
    have hlt : 200 * k < l.length := by unfold kc at hk; omega
    have hls := hld hbs h1 h2 hkeep gs
    have hln' := hld hbn h3 h4 hkeep gn
    obtain ⟨b, o, cap, sz, rfl, hsz, hcap⟩ : Sl x l.length := by
      rcases hsl with ⟨_, rfl⟩ | h
      · simp at hlt
      · exact h
    refine W.loop (W.seq (W.seq (W.region ?_)))
    refine WO.go (v := .int .i64 (.ofNat (200 * k))) (H' := H1) rfl rfl (fun rec => by simp [-Int.ofNat_eq_natCast, execA, write, quiet, AOpnd.ev, t4]) ?_
    refine WO.go (v := .sl b o l.length cap sz) (H' := H1) rfl rfl (fun rec => by simp [-Int.ofNat_eq_natCast, execA, write, quiet, AOpnd.ev, tget_puts, t1, hls]) ?_
    refine WO.go (v := .int .i64 (.ofNat l.length)) (H' := H1) rfl rfl (fun rec => by simp [-Int.ofNat_eq_natCast, execA, write, quiet, AOpnd.ev, tget_puts]) ?_
    refine WO.go (v := .bool true) (H' := H1) rfl rfl (fun rec => by simp [-Int.ofNat_eq_natCast, execA, write, quiet, AOpnd.ev, tget_puts, lss_t hlt]) (WO.nil ?_)
    refine W.cond_true (by simp [AOpnd.ev, tget_puts]) (W.skip ?_)
    refine W.seq (W.block (W.seq (W.draw ?_)))
    generalize ht : tput _ (some (Pos.ofNat 9)) (AVal.bool true) = s1
    have t0 : tget s1 (Pos.ofNat 0) = .yld lp := by rw [← ht]; simp [-Int.ofNat_eq_natCast, tget_puts, t0]
    have t1 : tget s1 (Pos.ofNat 1) = .ptr bs 0 := by rw [← ht]; simp [-Int.ofNat_eq_natCast, tget_puts, t1]
    have t2 : tget s1 (Pos.ofNat 2) = .ptr bn 0 := by rw [← ht]; simp [-Int.ofNat_eq_natCast, tget_puts, t2]
    have t4 : tget s1 (Pos.ofNat 4) = .int .i64 (.ofNat (200 * k)) := by rw [← ht]; simp [-Int.ofNat_eq_natCast, tget_puts, t4]
    clear ht
    refine WD.quiet (v := .int .i64 (.ofNat 200)) rfl (by simp only [quiet, AOpnd.ev, t2, hln']) ?_
    refine WD.quiet (v := .sl b o l.length cap sz) rfl (by simp [quiet, AOpnd.ev, tget_puts, t1, hls]) ?_
    refine WD.quiet (v := .int .i64 (.ofNat (200 * k))) rfl (by simp [-Int.ofNat_eq_natCast, quiet, AOpnd.ev, tget_puts, t4]) ?_
    refine WD.quiet (v := .sl b (o + 200 * k) (l.length - 200 * k) (cap - 200 * k) sz) rfl (slice_lo (by simp [AOpnd.ev, tget_puts]) (by simp [AOpnd.ev, tget_puts]) hsz hlt hcap) ?_
    refine WD.quiet (v := .int .i64 (.ofNat (l.length - 200 * k))) rfl (by simp [-Int.ofNat_eq_natCast, quiet, AOpnd.ev, tget_puts]) ?_
    refine WD.quiet (v := .int .i64 (.ofNat (min 200 (l.length - 200 * k)))) rfl (by rw [← mm_min]; simp [quiet, evs, AOpnd.ev, tget_puts]) ?_
    generalize he : min 200 (l.length - 200 * k) = e
    refine WD.quiet (v := .int .i64 (.ofNat e)) rfl (by simp [-Int.ofNat_eq_natCast, quiet, AOpnd.ev, tget_puts]) (WD.nil ?_)
    refine W.seq (W.region ?_)
    generalize ht : tput _ (some (Pos.ofNat 5)) (AVal.int .i64 (.ofNat e)) = s2
    have t0 : tget s2 (Pos.ofNat 0) = .yld lp := by rw [← ht]; simp [-Int.ofNat_eq_natCast, tget_puts, t0]
    have t1 : tget s2 (Pos.ofNat 1) = .ptr bs 0 := by rw [← ht]; simp [-Int.ofNat_eq_natCast, tget_puts, t1]
    have t2 : tget s2 (Pos.ofNat 2) = .ptr bn 0 := by rw [← ht]; simp [-Int.ofNat_eq_natCast, tget_puts, t2]
    have t4 : tget s2 (Pos.ofNat 4) = .int .i64 (.ofNat (200 * k)) := by rw [← ht]; simp [-Int.ofNat_eq_natCast, tget_puts, t4]
    have t5 : tget s2 (Pos.ofNat 5) = .int .i64 (.ofNat e) := by rw [← ht]; simp [-Int.ofNat_eq_natCast, tget_puts]
    clear ht
    have hadd : binOpA .add (.int .i64 (.ofNat (200 * k))) (.int .i64 (.ofNat e)) = some (.int .i64 (.ofNat (200 * k + e))) := add_nat (by omega)
    refine WO.go (v := .yld lp) (H' := H1) rfl rfl (fun rec => by simp [-Int.ofNat_eq_natCast, execA, write, quiet, AOpnd.ev, t0]) ?_
    refine WO.go (v := .sl b o l.length cap sz) (H' := H1) rfl rfl (fun rec => by simp [-Int.ofNat_eq_natCast, execA, write, quiet, AOpnd.ev, tget_puts, t1, hls]) ?_
    refine WO.go (v := .int .i64 (.ofNat (200 * k))) (H' := H1) rfl rfl (fun rec => by simp [-Int.ofNat_eq_natCast, execA, write, quiet, AOpnd.ev, tget_puts, t4]) ?_
    refine WO.go (v := .int .i64 (.ofNat (200 * k))) (H' := H1) rfl rfl (fun rec => by simp [-Int.ofNat_eq_natCast, execA, write, quiet, AOpnd.ev, tget_puts, t4]) ?_
    refine WO.go (v := .int .i64 (.ofNat e)) (H' := H1) rfl rfl (fun rec => by simp [-Int.ofNat_eq_natCast, execA, write, quiet, AOpnd.ev, tget_puts, t5]) ?_
    refine WO.go (v := .int .i64 (.ofNat (200 * k + e))) (H' := H1) rfl rfl (fun rec => by simp [-Int.ofNat_eq_natCast, execA, write, quiet, AOpnd.ev, tget_puts, hadd]) ?_
    refine WO.go (v := .int .i64 (.ofNat (200 * k))) (H' := H1) rfl rfl (fun rec => by simp [-Int.ofNat_eq_natCast, execA, write, quiet, AOpnd.ev, tget_puts, t4]) ?_
    refine WO.go (v := .int .i64 (.ofNat e)) (H' := H1) rfl rfl (fun rec => by simp [-Int.ofNat_eq_natCast, execA, write, quiet, AOpnd.ev, tget_puts, t5]) ?_
    refine WO.go (v := .int .i64 (.ofNat (200 * k + e))) (H' := H1) rfl rfl (fun rec => by simp [-Int.ofNat_eq_natCast, execA, write, quiet, AOpnd.ev, tget_puts, hadd]) ?_
    refine WO.go (v := .sl b (o + 200 * k) e e 0) (H' := H1) rfl rfl (fun rec => by simp only [execA, write]; rw [slice_mid (b := b) (o := o) (len := l.length) (cap := cap) (sz := sz) (i := 200 * k) (e := e) (by simp [AOpnd.ev, tget_puts]) (by simp [AOpnd.ev, tget_puts]) (by simp [AOpnd.ev, tget_puts]) (by simp [AOpnd.ev, tget_puts]) hsz (by omega) (by omega)]) ?_
    -- the round
    obtain ⟨hr1, hr2, hr3, hr4, hr5, hr6⟩ := hr
    have hread : Reads m H1 (.sl b (o + 200 * k) e e 0) (icells ((l.drop (200 * k)).take 200)) := by
      have h0 := hxk hkeep
      rw [← icells_length] at h0
      have := Reads.sub (cap' := e) (sz' := 0) h0 (i := 200 * k) (e := e) (by rw [icells_length]; omega) ⟨.inl rfl, Nat.le_refl _⟩
      rw [icells_sub] at this
      have hte : (l.drop (200 * k)).take e = (l.drop (200 * k)).take 200 := by
        rcases Nat.lt_or_ge 200 (l.length - 200 * k) with h | h
        · rw [show e = 200 by omega]
        · rw [List.take_of_length_le (by simp; omega), List.take_of_length_le (by simp; omega)]
      rw [hte] at this
      exact this
    generalize hxs : AVal.sl b (o + 200 * k) e e 0 = xs at hread
    have hread2 : Reads n (H1.upd lp (.loop { r with state := .busy })) xs (icells ((l.drop (200 * k)).take 200)) := by
      rcases hread with hx | ⟨b, o, cap, sz, e, hx, hb⟩
      · exact .inl hx
      · refine .inr ⟨b, o, cap, sz, e, ?_, by omega⟩
        unfold hloadN at hx ⊢
        rw [show PT.get b (H1.upd lp (.loop { r with state := .busy })).t = PT.get b H1.t from PT.get_set_other _ _ _ _ (fun e => by subst e; omega)]
        exact hx
    have hB2 : Box n pd (H1.upd lp (.loop { r with state := .busy })) dv (chs l k) :=
      ⟨by rw [show PT.get pd (H1.upd lp (.loop { r with state := .busy })).t = PT.get pd H1.t from PT.get_set_other _ _ _ _ (Ne.symm h5)]; exact hB.box, hpn, hB.nx, hB.gl.upd hln _⟩
    obtain ⟨H', hround, dv', hB', hlp', hk'⟩ := roundS_ok (E := E) (l := lp) (args := [xs]) (H := H1) (r := r) hlp hr1 (t := tput r.tmps (some (Pos.ofNat 40)) xs) (by rw [hr3]; rfl) hr4 hr5 (R := fun H' => ∃ dv', Box n pd H' dv' (chs l (k + 1)) ∧ PT.get lp H'.t = some (.loop r) ∧ Keep2 n pd lp H1 H') (by
      refine W.region ?_
      refine WO.go (v := xs) (H' := H1) rfl rfl (fun rec => by simp [execA, write, quiet, AOpnd.ev, tget_puts]) (WO.nil ?_)
      refine ⟨rfl, rfl, ?_⟩
      refine W.mono (enc_body C hB2 h5 hread2 (by simp; omega) (by rw [chs_length]; omega) (t := tput (tput r.tmps (some (Pos.ofNat 40)) xs) (some (Pos.ofNat 11)) xs) (by simp [tget_puts, hr6]) (by simp [tget_puts])) ?_
      rintro e2 a2 H2 ⟨rfl, hds, dv', hb2, hk2⟩
      have hlp2 : PT.get lp H2.t = some (.loop { r with state := .busy }) := by
        rw [hk2.get lp hln (Ne.symm h5) (Ne.symm h5)]
        exact get_upd
      refine ⟨rfl, hds, hlp2, dv', ⟨?_, hpn, hb2.nx, ?_⟩, ?_, ⟨hk2.nx, fun q hq hq1 hq2 => ?_⟩⟩
      · rw [show PT.get pd (H2.upd lp (.loop { r with state := .ready, pending := .none })).t = PT.get pd H2.t from PT.get_set_other _ _ _ _ (Ne.symm h5)]; exact hb2.box
      · rw [chs_succ]; exact hb2.gl.upd hln _
      · rw [get_upd]
        cases r
        simp only at hr1 hr2
        rw [hr1, hr2]
      · rw [show PT.get q (H2.upd lp (.loop { r with state := .ready, pending := .none })).t = PT.get q H2.t from PT.get_set_other _ _ _ _ (Ne.symm hq2), hk2.get q hq hq1 hq1]
        exact PT.get_set_other _ _ _ _ (Ne.symm hq2))
    refine WO.callV (v := .bool true) (H' := H') rfl ?_ ?_
    · obtain ⟨n0, hround⟩ := hround
      refine ⟨n0, fun q hq => ?_⟩
      have := hround q hq
      simpa [-Int.ofNat_eq_natCast, callVal, evs, AOpnd.ev, tget_puts, t0, hxs] using this
    refine WO.go (v := .bool false) (H' := H') rfl rfl (fun rec => by simp [execA, write, quiet, AOpnd.ev, tget_puts]) (WO.nil ?_)
    refine W.cond_false (by simp [AOpnd.ev, tget_puts]) (W.skip ?_)
    simp only [inBlock, andThen]
    refine W.region ?_
    have hkeep' := hkeep.trans hk'
    have hln2 := hld hbn h3 h4 hkeep' gn
    refine WO.go (v := .int .i64 (.ofNat (200 * k))) (H' := H') rfl rfl (fun rec => by simp [-Int.ofNat_eq_natCast, execA, write, quiet, AOpnd.ev, tget_puts, t4]) ?_
    refine WO.go (v := .int .i64 (.ofNat 200)) (H' := H') rfl rfl (fun rec => by simp only [execA, write, quiet, AOpnd.ev]; simp only [tget_puts, Nat.reduceLT, Nat.reduceEqDiff, if_false, t2, hln2]) ?_
    refine WO.go (v := .int .i64 (.ofNat (200 * k + 200))) (H' := H') rfl rfl (fun rec => by simp [-Int.ofNat_eq_natCast, execA, write, quiet, AOpnd.ev, tget_puts, add_200 (show 200 * k + 200 ≤ 9223372036854775807 by omega)]) ?_
    refine WO.go (v := .int .i64 (.ofNat (200 * k + 200))) (H' := H') rfl rfl (fun rec => by simp [-Int.ofNat_eq_natCast, execA, write, quiet, AOpnd.ev, tget_puts]) (WO.nil ?_)
    exact ih (k := k + 1) (dv := dv') (by omega) (by simp [tget_puts, t0]) (by simp [tget_puts, t1]) (by simp [tget_puts, t2]) (by simp [-Int.ofNat_eq_natCast, tget_puts, Nat.mul_add]) hB' hlp' hkeep'
end
end Go.Am
end

section
namespace Go.Am
open Go

theorem Keep2.keep {n m : Nat} {p q : Pos} {H H' : AHeap} (h : Keep2 n p q H H') (h1 : m ≤ n) (h2 : m ≤ p.toNat) (h3 : m ≤ q.toNat) : Keep m H H' :=
  ⟨h.nx, fun r hr => h.get r (by omega) (fun e => by subst e; omega) (fun e => by subst e; omega)⟩
theorem GL.of_ge {n : Nat} {H H' : AHeap} {v : AVal} {uss : List (List Nat)} (h : GL n H v uss) (hget : ∀ b : Pos, n ≤ b.toNat → b.toNat < H.nx.toNat → PT.get b H'.t = PT.get b H.t) (hnx : H.nx.toNat ≤ H'.nx.toNat) : GL n H' v uss := by
  obtain ⟨vs, g, hl, hi⟩ := h
  refine ⟨vs, ?_, hl, fun i vi us e1 e2 => ?_⟩
  · rcases g with g | ⟨b, e, g, h1, h2⟩
    · exact .inl g
    · exact .inr ⟨b, e, by rw [hget b h1 h2]; exact g, h1, by omega⟩
  · obtain ⟨r, o⟩ := hi i vi us e1 e2
    refine ⟨?_, o⟩
    rcases r with r | ⟨b, o', cap, sz, e, r, hb⟩
    · exact .inl r
    · refine .inr ⟨b, o', cap, sz, e, ?_, by omega⟩
      unfold hloadN at r ⊢
      rw [hget b (o _ _ _ _ _ e).2 hb.1]
      exact r
theorem fill3 {t : PT AVal} {a b c : AOpnd} {x y z : Nat} (ha : a.ev t = .int .i64 (.ofNat x)) (hb : b.ev t = .int .i64 (.ofNat y)) (hc : c.ev t = .int .i64 (.ofNat z)) {w : AVal} :
    fillA [w, w, w] t [(0, 1, a), (1, 1, b), (2, 1, c)] = some (icells [x, y, z]) := by
  simp only [fillA, ha, hb, hc]
  rfl
theorem same_int (n : Nat) : same (.int .i64 (.ofNat n)) (.int .i64 (.ofNat n)) = true := by
  show eqI (.ofNat n) (.ofNat n) = true
  exact eqI_self _

section
variable {E : Env} (C : CodeOk E)
include C
theorem chunk_call {n m : Nat} {bs bn lp pd : Pos} {r : ALoop} {x : AVal} {l : List Nat} {Hs : AHeap} {dv : AVal} (hl : l.length ≤ 1073741824) (hx : Reads m Hs x (icells l)) (hsl : x = .snil ∧ l = [] ∨ Sl x l.length)
    (hmp : m ≤ pd.toNat) (hml : m ≤ lp.toNat) (hpn : pd.toNat < n) (hln : lp.toNat < n) (hbs : bs.toNat < n) (hbn : bn.toNat < n) (h1 : bs ≠ pd) (h2 : bs ≠ lp) (h3 : bn ≠ pd) (h4 : bn ≠ lp) (h5 : pd ≠ lp)
    (gs : PT.get bs Hs.t = some (.cells [x] false false)) (gn : PT.get bn Hs.t = some (.cells [.int .i64 (.ofNat 200)] false false))
    (hr : r.state = .ready ∧ r.pending = .none ∧ r.params = [Pos.ofNat 40] ∧ r.assign = .region g10r13 ∧ r.body = g10b15 ∧ tget r.tmps (Pos.ofNat 10) = .ptr pd 0)
    (hB : Box n pd Hs dv []) (hlp : PT.get lp Hs.t = some (.loop r)) :
    ∃ v H', CallFS E 68 [.yld lp, .ptr bs 0, .ptr bn 0] Hs v H' ∧ ∃ dv', Box n pd H' dv' (chs l (kc l)) ∧ PT.get lp H'.t = some (.loop r) ∧ Keep2 n pd lp Hs H' := by
  refine CallFS.by (R := fun _ H' => ∃ dv', Box n pd H' dv' (chs l (kc l)) ∧ PT.get lp H'.t = some (.loop r) ∧ Keep2 n pd lp Hs H') (t0 := tput (tput (tput .l (some (Pos.ofNat 0)) (.yld lp)) (some (Pos.ofNat 1)) (.ptr bs 0)) (some (Pos.ofNat 2)) (.ptr bn 0)) rfl C.f68 rfl ?_
  refine W.seq (W.region ?_)
  refine WO.go (v := .int .i64 (.ofNat 0)) (H' := Hs) rfl rfl (fun rec => rfl) (WO.nil ?_)
  refine W.block (W.mono (chunk_loop C hl hx hsl hmp hml hpn hln hbs hbn h1 h2 h3 h4 h5 gs gn hr (kc l) (k := 0) (dv := dv) (by omega) (by simp [tget_puts]) (by simp [tget_puts]) (by simp [tget_puts]) (by simp [tget_puts]) (by simpa [chs] using hB) hlp ⟨Nat.le_refl _, fun _ _ _ _ => rfl⟩) ?_)
  rintro e ⟨t, ds⟩ H' ⟨rfl, hds, q⟩
  simp only [inBlock]
  exact ⟨.inl trivial, hds, .tup [], by simp [resultA, g68], q⟩

theorem chunk_make {H : AHeap} {x : AVal} (hs : isScal x = true) : CallS E 34 [x, .int .i64 (.ofNat 200)] H (.func 68 [] [.ptr H.nx 0, .ptr (H.new (.cells [x] false false)).2.nx 0]) (((H.new (.cells [x] false false)).2).new (.cells [.int .i64 (.ofNat 200)] false false)).2 := by
  suffices h : ∃ v' H', CallS E 34 [x, .int .i64 (.ofNat 200)] H v' H' ∧ v' = .func 68 [] [.ptr H.nx 0, .ptr (H.new (.cells [x] false false)).2.nx 0] ∧ H' = (((H.new (.cells [x] false false)).2).new (.cells [.int .i64 (.ofNat 200)] false false)).2 by obtain ⟨v', H', h, rfl, rfl⟩ := h; exact h
  refine CallS.by (R := fun v' H' => v' = .func 68 [] [.ptr H.nx 0, .ptr (H.new (.cells [x] false false)).2.nx 0] ∧ H' = (((H.new (.cells [x] false false)).2).new (.cells [.int .i64 (.ofNat 200)] false false)).2) (t0 := tput (tput .l (some (Pos.ofNat 0)) x) (some (Pos.ofNat 1)) (.int .i64 (.ofNat 200))) (C.s _ rfl) rfl C.f34 rfl ?_
  refine W.seq (W.region ?_)
  refine WO.go (v := .ptr H.nx 0) (H' := (H.new (.cells [x] false false)).2) rfl rfl (fun rec => by
    have : (AOpnd.t (Pos.ofNat 0)).ev (tput (tput .l (some (Pos.ofNat 0)) x) (some (Pos.ofNat 1)) (.int .i64 (.ofNat 200))) = x := by simp [AOpnd.ev, tget_puts]
    simp only [execA, write, this, vcells_scal hs]; rfl) ?_
  have g2 : hload (((H.new (.cells [x] false false)).2).new (.cells [.int .i64 (.ofNat 200)] false false)).2 (H.new (.cells [x] false false)).2.nx 0 = some (.int .i64 (.ofNat 200)) := by
    unfold hload; rw [get_new]; rfl
  generalize H.new (.cells [x] false false) = p1 at g2
  refine WO.go (v := .ptr p1.2.nx 0) (H' := (p1.2.new (.cells [.int .i64 (.ofNat 200)] false false)).2) rfl rfl (fun rec => by
    have : (AOpnd.t (Pos.ofNat 1)).ev (tput (tput (tput .l (some (Pos.ofNat 0)) x) (some (Pos.ofNat 1)) (.int .i64 (.ofNat 200))) (some (Pos.ofNat 2)) (.ptr H.nx 0)) = .int .i64 (.ofNat 200) := by simp [AOpnd.ev, tget_puts]
    simp only [execA, write, this, vcellsO]; rfl) ?_
  refine WO.go rfl rfl (fun rec => rfl) (WO.nil ?_)
  refine W.seq (W.seq (W.region ?_))
  generalize (p1.2.new (.cells [.int .i64 (.ofNat 200)] false false)).2 = H2 at g2
  refine WO.go (v := .int .i64 (.ofNat 200)) (H' := H2) rfl rfl (fun rec => by
    have : ∀ q, (AOpnd.t (Pos.ofNat 3)).ev (tput (tput (tput (tput (tput .l (some (Pos.ofNat 0)) x) (some (Pos.ofNat 1)) (.int .i64 (.ofNat 200))) (some (Pos.ofNat 2)) (.ptr H.nx 0)) (some (Pos.ofNat 3)) (.ptr p1.2.nx 0)) (some (Pos.ofNat 4)) q) = .ptr p1.2.nx 0 := by intro q; simp [AOpnd.ev, tget_puts]
    simp only [execA, write, quiet, this, g2]) ?_
  refine WO.go (v := .bool false) (H' := H2) rfl rfl (fun rec => by simp [execA, write, quiet, AOpnd.ev, tget_puts]; rfl) (WO.nil ?_)
  refine W.cond_false (by simp [AOpnd.ev, tget_puts]) (W.skip ?_)
  refine W.seq (W.region ?_)
  refine WO.go (v := .func 68 [] [.ptr H.nx 0, .ptr p1.2.nx 0]) (H' := H2) rfl rfl (fun rec => by simp [execA, write, quiet, evs, AOpnd.ev, tget_puts]) ?_
  refine WO.go (v := .func 68 [] [.ptr H.nx 0, .ptr p1.2.nx 0]) (H' := H2) rfl rfl (fun rec => by simp [execA, write, quiet, AOpnd.ev, tget_puts]) (WO.nil (W.ret ?_))
  exact ⟨.inr rfl, rfl, _, by simp [resultA, g34, tget_puts], rfl, rfl⟩

omit C in
theorem enc_check {H : AHeap} {x : AVal} {zs : List Int} {n : Nat} (hx : Reads n H x (zcells zs)) (hl : zs.length ≤ 1073741824) {gen : AVal} (d : Nat) :
    ∀ {i : Nat} {t : PT AVal} {ro : Option Pos}, i + d = zs.length → tget t (Pos.ofNat 0) = gen → tget t (Pos.ofNat 1) = x → tget t (Pos.ofNat 7) = .int .i64 (.ofNat zs.length) → tget t (Pos.ofNat 24) = x → tget t (Pos.ofNat 25) = .int .i64 (.ofNat zs.length) → tget t (Pos.ofNat 26) = .int .i64 (.ofNat i) →
    W E (.loop g10l10) ro ⟨t, []⟩ H (fun e a H' => a.ds = [] ∧ H' = H ∧ ((e = .exit 0 ∧ (∀ z ∈ zs.drop i, okz zs z) ∧ tget a.t (Pos.ofNat 0) = gen ∧ tget a.t (Pos.ofNat 1) = x ∧ tget a.t (Pos.ofNat 7) = .int .i64 (.ofNat zs.length)) ∨
      (e = .ret ∧ (∃ z ∈ zs.drop i, ¬ okz zs z) ∧ tget a.t (Pos.ofNat 4) = .snil ∧ tget a.t (Pos.ofNat 5) = .snil ∧ tget a.t (Pos.ofNat 6) = .int .i64 191))) := by
  induction d with
  | zero =>
    intro i t ro hd h0 h1 h7 h24 h25 h26
    have hi : i = zs.length := by omega
    subst hi
    refine W.loop (W.seq (W.region ?_))
    refine WO.go (v := .bool false) (H' := H) rfl rfl (fun rec => by simp [-Int.ofNat_eq_natCast, execA, write, quiet, AOpnd.ev, h25, h26, lss_f]) (WO.nil ?_)
    refine W.seq (W.cond_false (by simp [AOpnd.ev, tget_puts]) (W.exit ?_))
    exact ⟨rfl, rfl, .inl ⟨rfl, by simp, by simp [tget_puts, h0], by simp [tget_puts, h1], by simp [-Int.ofNat_eq_natCast, tget_puts, h7]⟩⟩
  | succ d ih =>
    intro i t ro hd h0 h1 h7 h24 h25 h26
    have hlt : i < zs.length := by omega
    have hlt' : i < (zcells zs).length := by rw [zcells_length]; exact hlt
    have hdrop : zs.drop i = zs[i] :: zs.drop (i + 1) := List.drop_eq_getElem_cons hlt
    refine W.loop (W.seq (W.region ?_))
    refine WO.go (v := .bool true) (H' := H) rfl rfl (fun rec => by simp [-Int.ofNat_eq_natCast, execA, write, quiet, AOpnd.ev, h25, h26, lss_t hlt]) (WO.nil ?_)
    refine W.seq (W.cond_true (by simp [AOpnd.ev, tget_puts]) (W.skip ?_))
    refine W.seq (W.block (W.seq (W.region ?_)))
    obtain ⟨b, o, e2, e1⟩ := hx.at' hlt'
    rw [zcells_at] at e2
    generalize hz : zs[i] = z at e2 hdrop
    refine WO.go (v := .ptr b o) (H' := H) rfl rfl (fun rec => exec_idxS (e1 (by simp [AOpnd.ev, tget_puts, h24]) (by simp [-Int.ofNat_eq_natCast, AOpnd.ev, tget_puts, h26]))) ?_
    refine WO.go (v := .int .i64 z) (H' := H) rfl rfl (fun rec => by simp [-Int.ofNat_eq_natCast, execA, write, quiet, AOpnd.ev, tget_puts, e2]) ?_
    refine WO.go (v := .int .i64 z) (H' := H) rfl rfl (fun rec => by simp [-Int.ofNat_eq_natCast, execA, write, quiet, AOpnd.ev, tget_puts]) (WO.nil ?_)
    refine W.seq (W.region ?_)
    generalize ht : tput _ (some (Pos.ofNat 9)) (AVal.int .i64 z) = t1
    have h0 : tget t1 (Pos.ofNat 0) = gen := by rw [← ht]; simp [-Int.ofNat_eq_natCast, tget_puts, h0]
    have h1 : tget t1 (Pos.ofNat 1) = x := by rw [← ht]; simp [-Int.ofNat_eq_natCast, tget_puts, h1]
    have h7 : tget t1 (Pos.ofNat 7) = .int .i64 (.ofNat zs.length) := by rw [← ht]; simp [-Int.ofNat_eq_natCast, tget_puts, h7]
    have h24 : tget t1 (Pos.ofNat 24) = x := by rw [← ht]; simp [-Int.ofNat_eq_natCast, tget_puts, h24]
    have h25 : tget t1 (Pos.ofNat 25) = .int .i64 (.ofNat zs.length) := by rw [← ht]; simp [-Int.ofNat_eq_natCast, tget_puts, h25]
    have h26 : tget t1 (Pos.ofNat 26) = .int .i64 (.ofNat i) := by rw [← ht]; simp [-Int.ofNat_eq_natCast, tget_puts, h26]
    have h9 : tget t1 (Pos.ofNat 9) = .int .i64 z := by rw [← ht]; simp [-Int.ofNat_eq_natCast, tget_puts]
    clear ht
    refine WO.go (v := .int .i64 z) (H' := H) rfl rfl (fun rec => by simp [-Int.ofNat_eq_natCast, execA, write, quiet, AOpnd.ev, h9]) ?_
    refine WO.go (v := .bool (decide (z < 0))) (H' := H) rfl rfl (fun rec => by simp [-Int.ofNat_eq_natCast, execA, write, quiet, AOpnd.ev, tget_puts, z_lss]) ?_
    refine WO.go (v := .bool (decide (z < 0))) (H' := H) rfl rfl (fun rec => by simp [-Int.ofNat_eq_natCast, execA, write, quiet, AOpnd.ev, tget_puts]) ?_
    by_cases hneg : z < 0
    · have hd1 : decide (z < 0) = true := by simp [hneg]
      simp only [hd1]
      refine WO.not (want_no (by simp [tget_puts])) ?_
      refine WO.not (want_no (by simp [tget_puts])) ?_
      refine WO.not (want_no (by simp [tget_puts])) ?_
      refine WO.go (v := .bool true) (H' := H) rfl rfl (fun rec => by simp [execA, write, quiet, AOpnd.ev, tget_puts]) (WO.nil ?_)
      refine W.cond_true (by simp [AOpnd.ev, tget_puts]) (W.seq (W.region ?_))
      refine WO.go rfl rfl (fun rec => rfl) ?_
      refine WO.go rfl rfl (fun rec => rfl) ?_
      refine WO.go rfl rfl (fun rec => rfl) (WO.nil (W.ret ?_))
      refine ⟨rfl, rfl, .inr ⟨rfl, ⟨z, by rw [hdrop]; simp, fun h => by have := h.1; omega⟩, by simp [AOpnd.ev, tget_puts], by simp [AOpnd.ev, tget_puts], by simp [AOpnd.ev, tget_puts]⟩⟩
    · have hd1 : decide (z < 0) = false := by simp [hneg]
      simp only [hd1]
      have wy : ∀ {t : PT AVal} {p : Pos}, tget t p = .bool false → wantedA t (some (p, false)) = some true := fun h => want_yes h
      refine WO.go (v := .int .i64 z) (H' := H) (wy (by simp [tget_puts])) rfl (fun rec => by simp [execA, write, quiet, AOpnd.ev, tget_puts, h9]) ?_
      refine WO.go (v := .int .i64 (.ofNat zs.length)) (H' := H) (wy (by simp [tget_puts])) rfl (fun rec => by simp [-Int.ofNat_eq_natCast, execA, write, quiet, AOpnd.ev, tget_puts, h7]) ?_
      refine WO.go (v := .bool (decide ((zs.length : Int) ≤ z))) (H' := H) (wy (by simp [tget_puts])) rfl (fun rec => by simp [execA, write, quiet, AOpnd.ev, tget_puts, z_geq]) ?_
      refine WO.go (v := .bool (decide ((zs.length : Int) ≤ z))) (H' := H) rfl rfl (fun rec => by simp [execA, write, quiet, AOpnd.ev, tget_puts]) (WO.nil ?_)
      by_cases hbig : (zs.length : Int) ≤ z
      · have hd2 : decide ((zs.length : Int) ≤ z) = true := by simp [hbig]
        simp only [hd2]
        refine W.cond_true (by simp [AOpnd.ev, tget_puts]) (W.seq (W.region ?_))
        refine WO.go rfl rfl (fun rec => rfl) ?_
        refine WO.go rfl rfl (fun rec => rfl) ?_
        refine WO.go rfl rfl (fun rec => rfl) (WO.nil (W.ret ?_))
        refine ⟨rfl, rfl, .inr ⟨rfl, ⟨z, by rw [hdrop]; simp, fun h => by have := h.2; omega⟩, by simp [AOpnd.ev, tget_puts], by simp [AOpnd.ev, tget_puts], by simp [AOpnd.ev, tget_puts]⟩⟩
      · have hd2 : decide ((zs.length : Int) ≤ z) = false := by simp [hbig]
        simp only [hd2]
        refine W.cond_false (by simp [AOpnd.ev, tget_puts]) (W.skip ?_)
        simp only [inBlock, andThen]
        refine W.region ?_
        refine WO.go (v := .int .i64 (.ofNat (i + 1))) (H' := H) rfl rfl (fun rec => by simp [-Int.ofNat_eq_natCast, execA, write, quiet, AOpnd.ev, tget_puts, h26, add_one (show i + 1 ≤ 9223372036854775807 by omega)]) ?_
        refine WO.go (v := .int .i64 (.ofNat (i + 1))) (H' := H) rfl rfl (fun rec => by simp [-Int.ofNat_eq_natCast, execA, write, quiet, AOpnd.ev, tget_puts]) (WO.nil ?_)
        refine W.mono (ih (i := i + 1) (by omega) (by simp [tget_puts, h0]) (by simp [tget_puts, h1]) (by simp [-Int.ofNat_eq_natCast, tget_puts, h7]) (by simp [tget_puts, h24]) (by simp [-Int.ofNat_eq_natCast, tget_puts, h25]) (by simp [tget_puts])) ?_
        rintro e a H' ⟨hds, hH, hor⟩
        refine ⟨hds, hH, ?_⟩
        rcases hor with ⟨he, hall, q⟩ | ⟨he, ⟨w, hw, hbad⟩, q⟩
        · refine .inl ⟨he, fun w hw => ?_, q⟩
          rw [hdrop] at hw
          rcases List.mem_cons.1 hw with rfl | hw
          · exact ⟨by omega, by omega⟩
          · exact hall w hw
        · exact .inr ⟨he, ⟨w, by rw [hdrop]; exact List.mem_cons_of_mem _ hw, hbad⟩, q⟩
end
end Go.Am
end
