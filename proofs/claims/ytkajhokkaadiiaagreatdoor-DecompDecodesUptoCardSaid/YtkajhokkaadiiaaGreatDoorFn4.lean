/- Part of the proof: AmF8, AmF9. -/
import Derived.Test.YtkajhokkaadiiaaGreatDoorFn3
set_option linter.unusedSimpArgs false
set_option linter.unusedVariables false
section
namespace Go.Am
open Go

/-- What Encode answers. -/
def Good (gen : Int) (zs : List Int) : Prop := 1 ≤ gen ∧ gen ≤ 2147483647 ∧ ∀ z ∈ zs, okz zs z
def EncR (gen : Int) (zs : List Int) (v : AVal) (H' : AHeap) : Prop :=
  (¬ Good gen zs ∧ v = .tup [.snil, .snil, .int .i64 191]) ∨
  (Good gen zs ∧ ∃ h d, v = .tup [h, d, .int .i64 0] ∧ Reads H'.nx.toNat H' h (cellsOfBytes (all4 [gen.toNat, zs.length, gmax (zs.map Int.toNat)])) ∧ Lists H'.nx.toNat H' d (chs (zs.map Int.toNat) (kc (zs.map Int.toNat))))
theorem zcells_good {zs : List Int} (h : ∀ z ∈ zs, okz zs z) : zcells zs = icells (zs.map Int.toNat) := by
  unfold zcells icells
  rw [List.map_map]
  refine List.map_congr_left fun z hz => ?_
  have := (h z hz).1
  simp only [Function.comp]
  congr 1
  exact (Int.toNat_of_nonneg this).symm

section
variable {E : Env} (C : CodeOk E)
include C
theorem ref_encode {H : AHeap} {x : AVal} {zs : List Int} {n : Nat} (hx : Reads n H x (zcells zs)) (hn : n ≤ H.nx.toNat) (hl : zs.length ≤ 16777216) (gen : Int) :
    ∃ v H', CallS E 11 [.int .i64 gen, x] H v H' ∧ EncR gen zs v H' ∧ Keep H.nx.toNat H H' := by
  refine CallS.by (R := fun v H' => EncR gen zs v H' ∧ Keep H.nx.toNat H H') (t0 := tput (tput .l (some (Pos.ofNat 0)) (.int .i64 gen)) (some (Pos.ofNat 1)) x) (C.s _ rfl) rfl C.f11 rfl ?_
  refine W.seq (W.region ?_)
  refine WO.go rfl rfl (fun rec => rfl) ?_
  refine WO.go rfl rfl (fun rec => rfl) ?_
  refine WO.go rfl rfl (fun rec => rfl) (WO.nil ?_)
  generalize ht : tput _ (some (Pos.ofNat 6)) _ = t1
  have h0 : tget t1 (Pos.ofNat 0) = .int .i64 gen := by rw [← ht]; simp [AOpnd.ev, tget_puts]
  have h1 : tget t1 (Pos.ofNat 1) = x := by rw [← ht]; simp [AOpnd.ev, tget_puts]
  clear ht
  have wy : ∀ {t : PT AVal} {p : Pos}, tget t p = .bool false → wantedA t (some (p, false)) = some true := fun h => want_yes h
  refine W.seq (W.seq (W.region ?_))
  refine WO.go (v := .int .i64 gen) (H' := H) rfl rfl (fun rec => by simp [-Int.ofNat_eq_natCast, execA, write, quiet, AOpnd.ev, h0]) ?_
  refine WO.go (v := .bool (decide (gen < 1))) (H' := H) rfl rfl (fun rec => by simp [-Int.ofNat_eq_natCast, execA, write, quiet, AOpnd.ev, tget_puts, z_lss]) ?_
  refine WO.go (v := .bool (decide (gen < 1))) (H' := H) rfl rfl (fun rec => by simp [-Int.ofNat_eq_natCast, execA, write, quiet, AOpnd.ev, tget_puts]) ?_
  by_cases hlow : gen < 1
  · have hd1 : decide (gen < 1) = true := by simp [hlow]
    simp only [hd1]
    refine WO.not (want_no (by simp [tget_puts])) ?_
    refine WO.not (want_no (by simp [tget_puts])) ?_
    refine WO.go (v := .bool true) (H' := H) rfl rfl (fun rec => by simp [execA, write, quiet, AOpnd.ev, tget_puts]) ?_
    refine WO.go (v := .bool true) (H' := H) rfl rfl (fun rec => by simp [execA, write, quiet, AOpnd.ev, tget_puts]) ?_
    refine WO.not (want_no (by simp [tget_puts])) ?_
    refine WO.not (want_no (by simp [tget_puts])) ?_
    refine WO.not (want_no (by simp [tget_puts])) ?_
    refine WO.go (v := .bool true) (H' := H) rfl rfl (fun rec => by simp [execA, write, quiet, AOpnd.ev, tget_puts]) (WO.nil ?_)
    refine W.cond_true (by simp [AOpnd.ev, tget_puts]) (W.seq (W.region ?_))
    refine WO.go rfl rfl (fun rec => rfl) ?_
    refine WO.go rfl rfl (fun rec => rfl) ?_
    refine WO.go rfl rfl (fun rec => rfl) (WO.nil (W.ret ?_))
    refine ⟨.inr rfl, rfl, .tup [.snil, .snil, .int .i64 191], by simp [resultA, g11, AOpnd.ev, tget_puts], .inl ⟨fun h => by have := h.1; omega, rfl⟩, Keep.refl _ _⟩
  have hd1 : decide (gen < 1) = false := by simp [hlow]
  simp only [hd1]
  refine WO.go (v := .int .i64 gen) (H' := H) (wy (by simp [tget_puts])) rfl (fun rec => by simp [execA, write, quiet, AOpnd.ev, tget_puts, h0]) ?_
  refine WO.go (v := .bool (decide (2147483647 < gen))) (H' := H) (wy (by simp [tget_puts])) rfl (fun rec => by simp [execA, write, quiet, AOpnd.ev, tget_puts, z_gtr]) ?_
  refine WO.go (v := .bool (decide (2147483647 < gen))) (H' := H) rfl rfl (fun rec => by simp [execA, write, quiet, AOpnd.ev, tget_puts]) ?_
  refine WO.go (v := .bool (decide (2147483647 < gen))) (H' := H) rfl rfl (fun rec => by simp [execA, write, quiet, AOpnd.ev, tget_puts]) ?_
  by_cases hhigh : 2147483647 < gen
  · have hd2 : decide (2147483647 < gen) = true := by simp [hhigh]
    simp only [hd2]
    refine WO.not (want_no (by simp [tget_puts])) ?_
    refine WO.not (want_no (by simp [tget_puts])) ?_
    refine WO.not (want_no (by simp [tget_puts])) ?_
    refine WO.go (v := .bool true) (H' := H) rfl rfl (fun rec => by simp [execA, write, quiet, AOpnd.ev, tget_puts]) (WO.nil ?_)
    refine W.cond_true (by simp [AOpnd.ev, tget_puts]) (W.seq (W.region ?_))
    refine WO.go rfl rfl (fun rec => rfl) ?_
    refine WO.go rfl rfl (fun rec => rfl) ?_
    refine WO.go rfl rfl (fun rec => rfl) (WO.nil (W.ret ?_))
    refine ⟨.inr rfl, rfl, .tup [.snil, .snil, .int .i64 191], by simp [resultA, g11, AOpnd.ev, tget_puts], .inl ⟨fun h => by have := h.2.1; omega, rfl⟩, Keep.refl _ _⟩
  have hd2 : decide (2147483647 < gen) = false := by simp [hhigh]
  simp only [hd2]
  refine WO.go (v := x) (H' := H) (wy (by simp [tget_puts])) rfl (fun rec => by simp [execA, write, quiet, AOpnd.ev, tget_puts, h1]) ?_
  refine WO.go (v := .int .i64 (.ofNat zs.length)) (H' := H) (wy (by simp [tget_puts])) rfl (fun rec => by simp only [execA, write]; rw [hx.len (by simp [AOpnd.ev, tget_puts]), zcells_length]) ?_
  have hlen : decide ((16777216 : Int) < (zs.length : Int)) = false := by simp; omega
  refine WO.go (v := .bool false) (H' := H) (wy (by simp [tget_puts])) rfl (fun rec => by simp [execA, write, quiet, AOpnd.ev, tget_puts, z_gtr, hlen]) ?_
  refine WO.go (v := .bool false) (H' := H) rfl rfl (fun rec => by simp [execA, write, quiet, AOpnd.ev, tget_puts]) (WO.nil ?_)
  refine W.cond_false (by simp [AOpnd.ev, tget_puts]) (W.skip ?_)
  refine W.seq (W.seq (W.region ?_))
  refine WO.go (v := .int .i64 (.ofNat 0)) (H' := H) rfl rfl (fun rec => rfl) (WO.nil ?_)
  refine W.block (W.mono (ref_check hx (by omega) (gen := .int .i64 gen) zs.length (i := 0) (by omega) (by simp [tget_puts, h0]) (by simp [tget_puts, h1]) (by simp [tget_puts])) ?_)
  rintro e ⟨t2, ds⟩ H1 ⟨hds, rfl, hor⟩
  have hds : ds = [] := hds
  subst hds
  rcases hor with ⟨rfl, hall, h0, h1⟩ | ⟨rfl, ⟨z, hz, hbad⟩, h4, h5, h6⟩
  rotate_left
  · simp only [inBlock, andThen]
    have h4 : tget t2 (Pos.ofNat 4) = .snil := h4
    have h5 : tget t2 (Pos.ofNat 5) = .snil := h5
    have h6 : tget t2 (Pos.ofNat 6) = .int .i64 191 := h6
    refine ⟨.inr trivial, trivial, .tup [.snil, .snil, .int .i64 191], by simp [resultA, g11, h4, h5, h6], .inl ⟨fun h => hbad (h.2.2 z (by simpa using hz)), rfl⟩, Keep.refl _ _⟩
  have hall : ∀ z ∈ zs, okz zs z := by simpa using hall
  have h0 : tget t2 (Pos.ofNat 0) = .int .i64 gen := h0
  have h1 : tget t2 (Pos.ofNat 1) = x := h1
  have hgood : Good gen zs := ⟨by omega, by omega, hall⟩
  simp only [inBlock, andThen]
  rw [zcells_good hall] at hx
  generalize hns : zs.map Int.toNat = ns at hx
  have hnl : ns.length = zs.length := by rw [← hns]; simp
  obtain ⟨g, hg⟩ : ∃ g : Nat, gen = .ofNat g := ⟨gen.toNat, (Int.toNat_of_nonneg (by omega)).symm⟩
  rw [hg] at h0
  -- the head
  refine W.seq (W.region ?_)
  refine WO.go (v := .int .i64 (.ofNat g)) (H' := H1) rfl rfl (fun rec => by simp [-Int.ofNat_eq_natCast, execA, write, quiet, AOpnd.ev, h0]) ?_
  obtain ⟨va, Ha, ca, ra, ka⟩ := four_ref C (H := H1) (n := H1.nx.toNat) (v := .snil) (us := []) (.inl ⟨rfl, rfl⟩) (Nat.le_refl _) (by simp) g
  refine WO.call (v := va) (H' := Ha) rfl (by simpa [-Int.ofNat_eq_natCast, evs, AOpnd.ev, tget_puts] using ca) ?_
  refine WO.go (v := va) (H' := Ha) rfl rfl (fun rec => by simp [-Int.ofNat_eq_natCast, execA, write, quiet, AOpnd.ev, tget_puts]) (WO.nil ?_)
  refine W.seq (W.region ?_)
  refine WO.go (v := va) (H' := Ha) rfl rfl (fun rec => by simp [-Int.ofNat_eq_natCast, execA, write, quiet, AOpnd.ev, tget_puts]) ?_
  refine WO.go (v := x) (H' := Ha) rfl rfl (fun rec => by simp [-Int.ofNat_eq_natCast, execA, write, quiet, AOpnd.ev, tget_puts, h1]) ?_
  refine WO.go (v := .int .i64 (.ofNat zs.length)) (H' := Ha) rfl rfl (fun rec => by simp only [execA, write]; rw [(hx.keep ka hn).len (by simp [AOpnd.ev, tget_puts]), icells_length, hnl]) ?_
  obtain ⟨vb, Hb, cb, rb, kb⟩ := four_ref C ra ka.nx (by simp [b4]) zs.length
  refine WO.call (v := vb) (H' := Hb) rfl (by simpa [-Int.ofNat_eq_natCast, evs, AOpnd.ev, tget_puts] using cb) ?_
  refine WO.go (v := vb) (H' := Hb) rfl rfl (fun rec => by simp [-Int.ofNat_eq_natCast, execA, write, quiet, AOpnd.ev, tget_puts]) (WO.nil ?_)
  refine W.seq (W.region ?_)
  refine WO.go (v := vb) (H' := Hb) rfl rfl (fun rec => by simp [-Int.ofNat_eq_natCast, execA, write, quiet, AOpnd.ev, tget_puts]) ?_
  refine WO.go (v := x) (H' := Hb) rfl rfl (fun rec => by simp [-Int.ofNat_eq_natCast, execA, write, quiet, AOpnd.ev, tget_puts, h1]) ?_
  have kab := ka.trans kb
  refine WO.call (v := .int .i64 (.ofNat (gmax ns))) (H' := Hb) rfl (by simpa [-Int.ofNat_eq_natCast, evs, AOpnd.ev, tget_puts] using ref_greatest C (hx.keep kab hn) (by omega)) ?_
  obtain ⟨vc, Hc, cc, rc, kc'⟩ := four_ref C rb kab.nx (by simp [b4]) (gmax ns)
  refine WO.call (v := vc) (H' := Hc) rfl (by simpa [-Int.ofNat_eq_natCast, evs, AOpnd.ev, tget_puts] using cc) ?_
  refine WO.go (v := vc) (H' := Hc) rfl rfl (fun rec => by simp [-Int.ofNat_eq_natCast, execA, write, quiet, AOpnd.ev, tget_puts]) (WO.nil ?_)
  have kabc := kab.trans kc'
  refine W.seq (W.region ?_)
  refine WO.go (v := .snil) (H' := Hc) rfl rfl (fun rec => rfl) (WO.nil ?_)
  refine W.seq (W.seq (W.region ?_))
  refine WO.go (v := .int .i64 (.ofNat 0)) (H' := Hc) rfl rfl (fun rec => rfl) (WO.nil ?_)
  refine W.block (W.mono (ref_outer C (hx.keep kabc hn) (Nat.le_trans hn kabc.nx) (by omega) (hv := vc) (hc := cellsOfBytes (([] ++ b4 g) ++ b4 zs.length ++ b4 (gmax ns))) (kc ns) (k := 0) (dv := .snil) (by omega) (by simp [tget_puts, h1]) (by simp [tget_puts]) (by simp [tget_puts]) (by simp [tget_puts]) (by simpa [chs] using GL.nil) ⟨rc.reads, fun p o len cap sz _ o' len' cap' sz' e => (by cases e)⟩ (Keep.refl _ _)) ?_)
  rintro e ⟨t3, ds⟩ H3 ⟨rfl, hds, hL, h8, hR, k3⟩
  have hds : ds = [] := hds
  subst hds
  have h8 : tget t3 (Pos.ofNat 8) = vc := h8
  simp only [inBlock, andThen]
  refine W.seq (W.region ?_)
  refine WO.go (v := vc) (H' := H3) rfl rfl (fun rec => by simp [-Int.ofNat_eq_natCast, execA, write, quiet, AOpnd.ev, h8]) ?_
  refine WO.go (v := tget t3 (Pos.ofNat 9)) (H' := H3) rfl rfl (fun rec => by simp [execA, write, quiet, AOpnd.ev, tget_puts]) ?_
  refine WO.go (v := vc) (H' := H3) rfl rfl (fun rec => by simp [-Int.ofNat_eq_natCast, execA, write, quiet, AOpnd.ev, tget_puts]) ?_
  refine WO.go (v := tget t3 (Pos.ofNat 9)) (H' := H3) rfl rfl (fun rec => by simp [execA, write, quiet, AOpnd.ev, tget_puts]) ?_
  refine WO.go (v := .int .i64 0) (H' := H3) rfl rfl (fun rec => rfl) (WO.nil (W.ret ?_))
  refine ⟨.inr rfl, rfl, .tup [vc, tget t3 (Pos.ofNat 9), .int .i64 0], by simp [resultA, g11, tget_puts], .inr ⟨hgood, vc, _, rfl, ?_, ?_⟩, kabc.trans (k3.mono kabc.nx)⟩
  · rw [hns, hg]
    simpa [all4] using hR
  · rw [hns]
    exact hL
end
end Go.Am
end

section
namespace Go.Am
open Go

section
variable {E : Env}
/-- A call by its code, where one mark is left to be taken. -/
theorem CallS.by_mark {f : FuncId} {fi : AFun} (hn : PT.get (Pos.ofNat f) E.sums = none) (hf : Nat.blt f 2147483648 = true) (hg : PT.get (Pos.ofNat f) E.fns = some fi) {args : List AVal} {t0 : PT AVal} (ha : args0 args 0 fi.ntmps .l = some t0) {H : AHeap} {R : AVal → AHeap → Prop}
    (hb : W E fi.body none ⟨t0, []⟩ H (fun e a' H' => (e = .normal ∨ e = .ret) ∧ ((a'.ds = [] ∧ ∃ v, (match resultA a'.t H' fi.results with | some [v] => some v | some l => some (.tup l) | none => none) = some v ∧ R v H') ∨
      (∃ m, a'.ds = [.mark m] ∧ PT.get m H'.t = some (.dfr true) ∧ ∃ v, (match resultA a'.t (H'.kill m) fi.results with | some [v] => some v | some l => some (.tup l) | none => none) = some v ∧ R v (H'.kill m))))) : ∃ v H', CallS E f args H v H' ∧ R v H' := by
  obtain ⟨e, ⟨t, ds⟩, H', h, he, hor⟩ := hb
  rcases hor with ⟨hds, v, hr, q⟩ | ⟨m, hds, hm, v, hr, q⟩
  · have hds : ds = [] := hds
    subst hds
    exact ⟨v, H', CallS.of hn (CallFS.of hf hg ha he h hr), q⟩
  · have hds : ds = [.mark m] := hds
    subst hds
    refine ⟨v, H'.kill m, CallS.of hn ?_, q⟩
    obtain ⟨n0, hb⟩ := h
    refine ⟨n0, fun n hn => ?_⟩
    unfold callF
    rw [hf, hg]
    simp only [enterA, ha]
    rw [hb n hn]
    rcases he with rfl | rfl <;>
    · simp only [takeDs, hm]
      split at hr
      · rename_i heq; simp only [heq]; cases hr; rfl
      · rename_i heq; cases hr; simp only [heq]
      · cases hr

/-- A loop over a function. -/
theorem W.rangeFunc {f : AOpnd} {ps : List Pos} {assign body : ACode} {a : AAct} {H : AHeap} {Q : SPost} {g : FuncId} {first caps : List AVal} (hf : f.ev a.t = .func g first caps)
    (h : ∃ v h3, CallFS E g (first ++ (.yld (H.new (.dfr true)).2.nx :: caps)) ((H.new (.dfr true)).2.new (.loop ⟨.ready, .none, a.t, ps, assign, body, H.nx⟩)).2 v h3 ∧
      ∃ r, PT.get (H.new (.dfr true)).2.nx h3.t = some (.loop r) ∧ r.state = .ready ∧ r.pending = .none ∧ Q .normal ⟨a.t, .mark H.nx :: a.ds⟩ (h3.kill (H.new (.dfr true)).2.nx)) : W E (.rangeFunc f ps assign body) none a H Q := by
  obtain ⟨v, h3, ⟨n0, hc⟩, r, hr, hs, hp, q⟩ := h
  refine ⟨_, _, _, ⟨n0 + 1, fun n hn => ?_⟩, q⟩
  obtain ⟨m, rfl⟩ : ∃ m, n = m + 1 := ⟨n - 1, by omega⟩
  have hc := hc m (by omega)
  simp only [AHeap.new] at hc hr ⊢
  simp only [ev, AHeap.new, hf]
  rw [hc]
  simp only [hr, hs, hp]

/-- One round of it, that goes on. -/
theorem roundS_ok {l : Pos} {args : List AVal} {H : AHeap} {r : ALoop} (hr : PT.get l H.t = some (.loop r)) (hs : r.state = .ready) {t : PT AVal} (hp : setPs r.params args r.tmps = some t) {as bd : ACode} (has : r.assign = as) (hbd : r.body = bd) {R : AHeap → Prop}
    (h : W E as (some l) ⟨t, []⟩ H (fun e a1 H1 => e = .normal ∧ H1 = H ∧ W E bd (some l) a1 (H.upd l (.loop { r with state := .busy })) (fun e2 a2 H2 => e2 = .normal ∧ a2.ds = [] ∧ PT.get l H2.t = some (.loop { r with state := .busy }) ∧ R (H2.upd l (.loop { r with state := .ready, pending := .none }))))) :
    ∃ H', (∃ n0, ∀ n, n0 ≤ n → roundA (ev E n) l args H = some (.bool true, H')) ∧ R H' := by
  subst has hbd
  obtain ⟨e, a1, H1, ⟨n0, h⟩, rfl, rfl, e2, ⟨t2, ds2⟩, H2, ⟨n1, k⟩, rfl, hds, hl, q⟩ := h
  have hds : ds2 = [] := hds
  subst hds
  refine ⟨_, ⟨n0 + n1, fun n hn => ?_⟩, q⟩
  unfold roundA
  simp only [hr, hp]
  rw [h n (by omega)]
  simp only [hr, hs]
  rw [k n (by omega)]
  simp only [hl]
end

theorem mul_4 {q : Nat} (h : 4 * q ≤ 9223372036854775807) : binOpA .mul (.int .i64 4) (.int .i64 (.ofNat q)) = some (.int .i64 (.ofNat (4 * q))) := by
  have : Nat.ble (4 * q) 9223372036854775807 = true := ble_t h
  show some (AVal.int .i64 (wrapI .i64 (mulI (.ofNat 4) (.ofNat q)))) = _
  simp only [mulI, wrapI, nmul, this]

/-- The heap in a round: the list that grows, and the box that holds it. -/
structure Box (n : Nat) (pd : Pos) (H : AHeap) (dv : AVal) (uss : List (List Nat)) : Prop where
  box : PT.get pd H.t = some (.cells [dv] false false)
  low : pd.toNat < n
  nx : n ≤ H.nx.toNat
  gl : GL n H dv uss
/-- All below n but two. -/
structure Keep2 (n : Nat) (p q : Pos) (H H' : AHeap) : Prop where
  nx : H.nx.toNat ≤ H'.nx.toNat
  get : ∀ r : Pos, r.toNat < n → r ≠ p → r ≠ q → PT.get r H'.t = PT.get r H.t
theorem Keep2.trans {n : Nat} {p q : Pos} {H H1 H2 : AHeap} (h : Keep2 n p q H H1) (k : Keep2 n p q H1 H2) : Keep2 n p q H H2 := ⟨Nat.le_trans h.nx k.nx, fun r h1 h2 h3 => (k.get r h1 h2 h3).trans (h.get r h1 h2 h3)⟩

theorem Grows.dvoff {n : Nat} {H : AHeap} {v : AVal} {l : List AVal} (h : Grows n H v l) {p : Pos} (hp : p.toNat < n) : OffB v p := by
  intro o len cap sz e
  rcases h with ⟨rfl, _⟩ | ⟨b, rfl, _, hb, _⟩
  · cases e
  · cases e; omega
theorem GL.off {n : Nat} {H : AHeap} {v : AVal} {uss : List (List Nat)} (h : GL n H v uss) {p : Pos} (hp : p.toNat < n) : OffB v p := by
  obtain ⟨vs, g, _⟩ := h
  exact g.dvoff hp
theorem GL.upd {n : Nat} {H : AHeap} {v : AVal} {uss : List (List Nat)} (h : GL n H v uss) {p : Pos} (hp : p.toNat < n) (x : AObj) : GL n (H.upd p x) v uss := by
  obtain ⟨vs, g, hl, hi⟩ := h
  have hget : ∀ b : Pos, n ≤ b.toNat → PT.get b (H.upd p x).t = PT.get b H.t := fun b hb => PT.get_set_other _ _ _ _ (fun e => by subst e; omega)
  refine ⟨vs, ?_, hl, fun i vi us e1 e2 => ?_⟩
  · rcases g with g | ⟨b, e, g, h1, h2⟩
    · exact .inl g
    · exact .inr ⟨b, e, by rw [hget b h1]; exact g, h1, h2⟩
  · obtain ⟨r, o⟩ := hi i vi us e1 e2
    refine ⟨?_, o⟩
    rcases r with r | ⟨b, o', cap, sz, e, r, hb⟩
    · exact .inl r
    · refine .inr ⟨b, o', cap, sz, e, ?_, hb⟩
      unfold hloadN at r ⊢
      rw [hget b (o _ _ _ _ _ e).2]
      exact r

theorem exec_mkSlice {E : Env} {rec : Rec} {t : PT AVal} {H : AHeap} {z : List AVal} {by' : Nat} {x y : AOpnd} {v : AVal} {H' : AHeap} (h : write t H (.mkSlice z by' x y) = some (v, H')) : execA E rec t H (.mkSlice z by' x y) = some (v, H') := h

section
variable {E : Env} (C : CodeOk E)
include C
/-- One chunk laid behind the data. -/
theorem enc_body {n : Nat} {pd l : Pos} {H : AHeap} {dv x : AVal} {uss : List (List Nat)} {c : List Nat} (hB : Box n pd H dv uss) (_hpl : pd ≠ l) (hx : Reads n H x (icells c)) (hc : c.length ≤ 1073741824) (hus : uss.length ≤ 1073741824) {t : PT AVal} (h10 : tget t (Pos.ofNat 10) = .ptr pd 0) (h11 : tget t (Pos.ofNat 11) = x) {ro : Option Pos} :
    W E g10b15 ro ⟨t, []⟩ H (fun e a H' => e = .normal ∧ a.ds = [] ∧ ∃ dv', Box n pd H' dv' (uss ++ [all4 c]) ∧ Keep2 n pd pd H H') := by
  have hld : hload H pd 0 = some dv := by unfold hload; rw [hB.box]; rfl
  refine W.block (W.draw ?_)
  refine WD.quiet (v := dv) rfl (by simp [quiet, AOpnd.ev, h10, hld]) ?_
  refine WD.quiet (v := x) rfl (by simp [quiet, AOpnd.ev, tget_puts, h11]) ?_
  refine WD.quiet (v := .int .i64 (.ofNat c.length)) rfl (by rw [hx.len (by simp [AOpnd.ev, tget_puts]), icells_length]) ?_
  refine WD.quiet (v := .int .i64 (.ofNat (4 * c.length))) rfl (by simp [-Int.ofNat_eq_natCast, quiet, AOpnd.ev, tget_puts, mul_4 (show 4 * c.length ≤ 9223372036854775807 by omega)]) ?_
  refine WD.new (v := .sl H.nx 0 0 (4 * c.length) 0) (H' := (H.new (.cells (repl [.int .u8 0] (4 * c.length)) false false)).2) rfl (write_mkSlice (n := 0) (c := 4 * c.length) (q := .i64) (q' := .i64) rfl (by simp [-Int.ofNat_eq_natCast, AOpnd.ev, tget_puts]) (by omega) (by omega) (by omega)) ?_
  have k1 : Keep H.nx.toNat H (H.new (.cells (repl [.int .u8 0] (4 * c.length)) false false)).2 := keep_new
  have hbuf : Buf H.nx.toNat (4 * c.length) (H.new (.cells (repl [.int .u8 0] (4 * c.length)) false false)).2 (.sl H.nx 0 0 (4 * c.length) 0) (cellsOfBytes []) :=
    .inr ⟨4 * c.length, ⟨H.nx, repl [.int .u8 0] (4 * c.length), rfl, by simpa [cellsOfBytes] using get_new, by simp [cellsOfBytes, repl1_length], Nat.le_refl _, by rw [nx_new]; omega⟩, by simp [cellsOfBytes]⟩
  generalize (H.new (.cells (repl [.int .u8 0] (4 * c.length)) false false)).2 = H1 at k1 hbuf
  refine WD.quiet (v := x) rfl (by simp [quiet, AOpnd.ev, tget_puts, h11]) ?_
  obtain ⟨v4, H2, c4, b4', k2⟩ := four_ok C (n := H.nx.toNat) (hx.keep k1 hB.nx) hB.nx k1.nx hc (by simp) hbuf
  have k12 := k1.trans k2
  refine WD.loud (v := v4) (H' := H2) (seen' := [⟨t, .load1 (.t (Pos.ofNat 10)), dv, 1⟩]) rfl ?_ ?_ ?_
  · obtain ⟨n0, c4⟩ := c4
    refine ⟨n0, fun m hm => ?_⟩
    simp only [execA]
    have := c4 m hm
    simpa [-Int.ofNat_eq_natCast, evs, AOpnd.ev, tget_puts] using this
  · have hld2 : hload H2 pd 0 = some dv := by
      unfold hload; rw [k12.get pd (Nat.lt_of_lt_of_le hB.low hB.nx), hB.box]; rfl
    have hq : quiet t H2 (.load1 (.t (Pos.ofNat 10))) = some dv := by simp [quiet, AOpnd.ev, h10, hld2]
    have hsame : same dv dv = true := by
      obtain ⟨vs, g, _⟩ := hB.gl
      have hpb : ∀ b : Pos, Pos.beq b b = true := fun b => Pos.beq_eq.2 rfl
      rcases g with ⟨rfl, _⟩ | ⟨b, rfl, _⟩ <;> simp [same, hpb]
    have e1 : Nat.beq (Nat.land 62 32) 0 = false := rfl
    have e2 : Nat.beq (Nat.land 62 8) 0 = false := rfl
    have e3 : Nat.beq (Nat.land 62 4) 0 = false := rfl
    have e4 : Nat.beq (Nat.land 62 2) 0 = false := rfl
    have e5 : Nat.beq (Nat.land 62 1) 0 = true := rfl
    simp only [again, e1, e2, e3, e4, e5, hq, hsame]
  have hr4 : Reads H2.nx.toNat H2 v4 (cellsOfBytes (all4 c)) := by simpa using b4'.reads
  have hGL2 := hB.gl.keep k12
  have hoff : ∀ p o len cap sz, v4 = .sl p o len cap sz → OffB dv p ∧ n ≤ p.toNat := by
    intro p o len cap sz e
    have hge : H.nx.toNat ≤ p.toNat := by
      rcases b4' with g | ⟨cap', g, _⟩
      · rcases g with ⟨rfl, _⟩ | ⟨b, rfl, _, hb, _⟩
        · cases e
        · cases e; exact hb
      · obtain ⟨b, rest, rfl, _, _, hb, _⟩ := g
        cases e; exact hb
    obtain ⟨vs, g, _⟩ := hB.gl
    exact ⟨g.off hge, Nat.le_trans hB.nx hge⟩
  have hn2 : n ≤ H2.nx.toNat := Nat.le_trans hB.nx k12.nx
  obtain ⟨v', H3, e3, g3, k3, fr, ap⟩ := hGL2.append hn2 hr4 hoff hus
  refine WD.new (v := .sl H2.nx 0 1 1 0) (H' := (H2.new (.cells [v4] false false)).2) rfl (by simp only [write]; rw [fill1 (v := v4) (by simp [AOpnd.ev, tget_puts]) hr4.scal]; rfl) ?_
  refine WD.loud (v := v') (H' := H3) (seen' := []) rfl ⟨0, fun m _ => by simp [-Int.ofNat_eq_natCast, execA, write, AOpnd.ev, tget_puts, e3]⟩ (by simp [again]) ?_
  have hb3 : PT.get pd H3.t = some (.cells [dv] false false) := by
    rw [k3.get pd hB.low, k12.get pd (Nat.lt_of_lt_of_le hB.low hB.nx), hB.box]
  have hsc : isScal v' = true := by
    obtain ⟨vs, g, _⟩ := g3
    rcases g with ⟨rfl, _⟩ | ⟨b, rfl, _⟩ <;> rfl
  have hst : hstoreN H3 pd 0 [v'] = some (H3.upd pd (.cells [v'] false false)) := by
    unfold hstoreN
    rw [hb3]
    simp only [scal_one hsc]
    rfl
  refine WD.loud (v := .undef) (H' := H3.upd pd (.cells [v'] false false)) (seen' := []) rfl ⟨0, fun m _ => ?_⟩ rfl (WD.nil ?_)
  · simp only [execA, write]
    have e1 : (AOpnd.t (Pos.ofNat 10)).ev (tput (tput (tput (tput (tput (tput (tput (tput (tput t (some (Pos.ofNat 41)) dv) (some (Pos.ofNat 42)) x) (some (Pos.ofNat 43)) (.int .i64 (.ofNat c.length))) (some (Pos.ofNat 44)) (.int .i64 (.ofNat (4 * c.length)))) (some (Pos.ofNat 45)) (.sl H.nx 0 0 (4 * c.length) 0)) (some (Pos.ofNat 46)) x) (some (Pos.ofNat 47)) v4) (some (Pos.ofNat 48)) (.sl H2.nx 0 1 1 0)) (some (Pos.ofNat 49)) v') = .ptr pd 0 := by
      simp [AOpnd.ev, tget_puts, h10]
    have e2 : (AOpnd.t (Pos.ofNat 49)).ev (tput (tput (tput (tput (tput (tput (tput (tput (tput t (some (Pos.ofNat 41)) dv) (some (Pos.ofNat 42)) x) (some (Pos.ofNat 43)) (.int .i64 (.ofNat c.length))) (some (Pos.ofNat 44)) (.int .i64 (.ofNat (4 * c.length)))) (some (Pos.ofNat 45)) (.sl H.nx 0 0 (4 * c.length) 0)) (some (Pos.ofNat 46)) x) (some (Pos.ofNat 47)) v4) (some (Pos.ofNat 48)) (.sl H2.nx 0 1 1 0)) (some (Pos.ofNat 49)) v') = v' := by
      simp [AOpnd.ev, tget_puts]
    rw [e1, e2]
    simp only [vcells_scal hsc, hst, List.length_cons, List.length_nil]
  refine ⟨rfl, rfl, v', ⟨get_upd, hB.low, Nat.le_trans hn2 k3.nx, ?_⟩, ⟨?_, fun r hr hr1 _ => ?_⟩⟩
  · exact g3.upd hB.low _
  · exact Nat.le_trans k12.nx k3.nx
  · rw [show PT.get r (H3.upd pd (.cells [v'] false false)).t = PT.get r H3.t from PT.get_set_other _ _ _ _ (Ne.symm hr1), k3.get r hr, k12.get r (Nat.lt_of_lt_of_le hr hB.nx)]
end
end Go.Am
end
