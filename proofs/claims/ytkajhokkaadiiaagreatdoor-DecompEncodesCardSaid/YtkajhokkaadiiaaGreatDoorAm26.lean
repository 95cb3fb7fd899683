/- Part of the proof: AmEncKit, AmEncWalk, AmArg. -/
import Derived.Test.YtkajhokkaadiiaaGreatDoorAm24
import Derived.Test.YtkajhokkaadiiaaGreatDoorAm25
section
namespace Go.Am
open Go Go.RowKit

section
variable {P : Program} {T : Tys} {B : Nat} {φ : Emb} {H : AHeap} {w : World}

/-- A call by its code, where the heap behind it is found on the way. -/
theorem calls_of_wp (hT : TOk2 T P) {fn : Func} {c : Code} {f : FuncId} (g1 : P.funcs[f]? = some fn) (k1 : fn.body = some c) {ars : List (Pos × Option Nat)} (k4 : compRes T fn.results.toList = some ars) {vs : Array Value} {l : List AVal}
    (hw : c.wpIn (FR none) 0 P (fun e a' w' => ∃ t' H', resultA t' H' ars = some l ∧ Post T B φ H w fn.ntmps .ret ⟨t', []⟩ H' e a' w') { tmps := vs ++ Array.replicate (fn.ntmps - vs.size) undef, defers := [] } w) :
    CallsIn Fence.wide 0 P f vs w fun e w' => ∃ u φ', e = .returned u ∧ VRel φ' (resVal l) u ∧ Below B w w' := by
  refine callsIn_of_wp_marks g1 k1 trivial (wpIn_mono hw fun e' a' w' ⟨t', H', hr, he', φ', hS, hact⟩ => ?_)
  obtain ⟨u, h1, h2⟩ := results_run (P := P) hT.toTOk hS.rel hact.t k4 hr
  have hd : a'.defers = [] := hact.ds
  subst he'
  show LeavesInM _ _ _ _ _ _ a'.defers _ _
  rw [hd]
  exact ⟨u, h1, u, φ', rfl, h2, hS.below⟩

/-- A prefix and a number. -/
theorem name1_calls (hT : TOk2 T P) {f fi : FuncId} {fn fni : Func} {ci : Code} (hf : P.funcs[f]? = some fn) (hfi : P.funcs[fi]? = some fni) (hni : (fni.name == "runtime.NumGoroutine") = false) (hbi : fni.body = some ci) {Tab : World → Prop}
    (hitoa : ∀ (n : Int) (w : World), -9223372036854775808 ≤ n → n ≤ 9223372036854775807 → Tab w → CallsIn Fence.wide 0 P fi #[.int .i64 n] w fun e w' => e = .returned (.string ⟨(Lib.itoa n).toArray⟩) ∧ Below w.heap.size w w')
    {pre : List Nat} (hpre : pre.length ≤ 100) {i0 i1 : Nat} {p0 m0 oA b0 a2 : Oper} (hb : fn.body = some (.seq (.region i0 #[p0] false) (.seq (.region i1 #[m0, oA, b0, a2] false) .ret)))
    (hnt : fn.ntmps = 6) (hres : compRes T fn.results.toList = some [(Pos.ofNat 2, none)])
    (c0 : compOpers T 6 [p0] [p0] = some [⟨some (Pos.ofNat 2), .move (.c (.str [])), none⟩])
    (k0 : compOper T 6 [m0, oA, b0, a2] m0 = some ⟨some (Pos.ofNat 3), .move (.t (Pos.ofNat 0)), none⟩)
    {cA : Call} (kA : oA.op = .call cA) (kAc : cA.callee = .value (.func fi)) (kAa : cA.args = #[.tmp 3]) (kAd : oA.dst = some 4) (kAg : oA.guard = none)
    (k1 : compOper T 6 [m0, oA, b0, a2] b0 = some ⟨some (Pos.ofNat 5), .bin .add (.c (.str pre)) (.t (Pos.ofNat 4)), none⟩)
    (k2 : compOper T 6 [m0, oA, b0, a2] a2 = some ⟨some (Pos.ofNat 2), .move (.t (Pos.ofNat 5)), none⟩)
    {a : Int} (ha0 : -9223372036854775808 ≤ a) (ha1 : a ≤ 9223372036854775807) (hname : (fn.name == "runtime.NumGoroutine") = false) (hH : HRel T w.heap.size φ H w) (htab : Tab w) :
    CallsIn Fence.wide 0 P f #[.int .i64 a] w fun e w' => ∃ u, e = .returned u ∧ VRel φ (.str (pre ++ nums (Lib.itoa a))) u ∧ Below w.heap.size w w' := by
  have la := Lib.itoa_length_le a ha0 ha1
  have hfin : Returns P T w.heap.size φ H w f #[.int .i64 a] (.str (pre ++ nums (Lib.itoa a))) H := by
    refine returns_of_wp (l := [.str (pre ++ nums (Lib.itoa a))]) (ex := .ret) hT hf hname hb hres (.inr rfl) ?_
    rw [hnt]
    have hact : ActRel φ 6 ⟨tput .l (some (Pos.ofNat 0)) (.int .i64 a), []⟩ { tmps := #[.int .i64 a] ++ Array.replicate (6 - (#[Value.int .i64 a] : Array Value).size) undef, defers := [] } :=
      act_start (args := [.int .i64 a]) rfl ⟨_, _, rfl, rfl, rfl⟩ (by decide)
    generalize ({ tmps := #[.int .i64 a] ++ Array.replicate (6 - (#[Value.int .i64 a] : Array Value).size) undef, defers := [] } : Act) = ac at hact ⊢
    refine wpIn_seq (qregion_ok hT c0 hH hact rfl fun a1 hact => ?_)
    refine wpIn_seq (wpIn_region_list ?_)
    show wpListIn _ _ _ #[m0, oA, b0, a2] _ [m0, oA, b0, a2] a1 w
    refine step_q (.int .i64 a) hT hH hact k0 rfl (qq_move (by simp [AOpnd.ev, tget_puts])) fun a2' hact => ?_
    have e3 : a2'.eval (.tmp 3) = .int .i64 a := by
      have := hact.t.2.2 3 (by decide)
      simp only [tget_puts _ (show 3 < 2147483648 by decide) (show 3 < 2147483648 by decide), if_true] at this
      exact this
    refine step_call hact (g := none) (by rw [kAg]; rfl) rfl kA kAc (args := #[.int .i64 a]) (by rw [kAa]; simp [e3]) (fun w => run_callFunc hfi hni hbi) (hitoa a w ha0 ha1 htab) ?_
    rintro e w1 ⟨rfl, hb1'⟩
    refine ⟨_, rfl, ?_⟩
    have hH1 := hH.grown hb1'
    have hact2 := hact.put (o := oA) (d := some (Pos.ofNat 4)) (by rw [kAd]; rfl) (vrel_nums (φ := φ) (Lib.itoa a))
    generalize a2'.put oA.dst (.string ⟨(Lib.itoa a).toArray⟩) = a3 at hact2 ⊢
    have hadd : binOpA .add (.str pre) (.str (nums (Lib.itoa a))) = some (.str (pre ++ nums (Lib.itoa a))) := by
      have : Nat.ble (Nat.add pre.length (nums (Lib.itoa a)).length) 9223372036854775807 = true := Nat.ble_eq_true_of_le (by show pre.length + (nums (Lib.itoa a)).length ≤ _; rw [nums_length]; omega)
      simp only [binOpA, strBin, this]
    refine step_q (.str (pre ++ nums (Lib.itoa a))) hT hH1 hact2 k1 rfl (qq_bin (vx := .str pre) (vy := .str (nums (Lib.itoa a))) rfl (by simp [AOpnd.ev, tget_puts]) hadd) fun a4 hact => ?_
    refine step_q (.str (pre ++ nums (Lib.itoa a))) hT hH1 hact k2 rfl (qq_move (by simp [AOpnd.ev, tget_puts])) fun a5 hact => ?_
    simp only [wpListIn, Exit.then]
    refine wpIn_ret ⟨_, ?_, rfl, φ, ⟨Ext.refl _ _, hH1, hb1'⟩, hact⟩
    simp [resultA, tget_puts]
  refine CallsIn.mono hfin.2 ?_
  rintro e w' ⟨u, φ', rfl, hv, hS⟩
  have : VRel φ (.str (pre ++ nums (Lib.itoa a))) u := hv
  exact ⟨u, rfl, this, hS.below⟩
end
end Go.Am
end

section
namespace Go.Am
open Go Go.RowKit

section
variable {P : Program} {T : Tys} {B : Nat} {φ : Emb} {H : AHeap} {w : World}
theorem w_no {t : PT AVal} {p : Pos} (h : PT.get p t = some (.bool true)) : wantedA t (some (p, false)) = some false := by simp [wantedA, h]
theorem w_yes {t : PT AVal} {p : Pos} (h : PT.get p t = some (.bool false)) : wantedA t (some (p, false)) = some true := by simp [wantedA, h]
theorem w_yes' {t : PT AVal} {p : Pos} (h : PT.get p t = some (.bool true)) : wantedA t (some (p, true)) = some true := by simp [wantedA, h]
theorem w_no' {t : PT AVal} {p : Pos} (h : PT.get p t = some (.bool false)) : wantedA t (some (p, true)) = some false := by simp [wantedA, h]

/-- The law: the closed play, the bound, the names; then what the machine finds. -/
theorem law_enc (hT : TOk2 T P) {E : Env} (hsound : ∀ n, SoundRec P T w.heap.size (ev E n)) {f fF fN fM : FuncId} {fn fnF fnN fnM : Func} {cF cN cM rest : Code} {restA : ACode} (hrestA : comp T 110 false rest = restA)
    (hf : P.funcs[f]? = some fn)
    (hfF : P.funcs[fF]? = some fnF) (hnF : (fnF.name == "runtime.NumGoroutine") = false) (hbF : fnF.body = some cF) (hfN : P.funcs[fN]? = some fnN) (hnN : (fnN.name == "runtime.NumGoroutine") = false) (hbN : fnN.body = some cN) (hfM : P.funcs[fM]? = some fnM) (hnM : (fnM.name == "runtime.NumGoroutine") = false) (hbM : fnM.body = some cM)
    {gen at' to' : Int} {xv : AVal} {N : Nat} {s : List Nat} {vs : Array Value} (hl : LRel φ [.int .i64 gen, xv, .int .i64 at', .int .i64 to'] vs.toList)
    (hlen : ∀ t, tget t (Pos.ofNat 27) = xv → quiet t H (.len 1 (.t (Pos.ofNat 27))) = some (.int .i64 (.ofNat N)))
    (hfirst : CallsIn Fence.wide 0 P fF #[] w fun e w' => e = .returned (.bool true) ∧ Below w.heap.size w w')
    (hN : ∀ w' : World, Below w.heap.size w w' → CallsIn Fence.wide 0 P fN #[.int .i64 gen] w' fun e w'' => ∃ u, e = .returned u ∧ VRel φ (.str s) u ∧ Below w'.heap.size w' w'')
    (hM : ∀ w' : World, Below w.heap.size w w' → CallsIn Fence.wide 0 P fM #[.int .i64 gen] w' fun e w'' => ∃ u, e = .returned u ∧ VRel φ (.str s) u ∧ Below w'.heap.size w' w'')
    (hrest : N ≤ 65536 → ∀ t, tget t (Pos.ofNat 0) = .int .i64 gen → tget t (Pos.ofNat 1) = xv → tget t (Pos.ofNat 2) = .int .i64 at' → tget t (Pos.ofNat 3) = .int .i64 to' → ∃ n aa' H', ev E n restA none ⟨t, []⟩ H = some (.ret, aa', H') ∧ aa'.ds = [] ∧ tget aa'.t (Pos.ofNat 8) = .bool true)
    {i0 i1 i2 i3 i4 i5 : Nat} {p0 oF p1 g0 g1 g2 g3 g4 g5 g6 r0 r1 s0 s1 s2 s3 oN s5 oM s7 s8 u0 : Oper}
    (hb : fn.body = some (.seq (.region i0 #[p0] false) (.seq (.region i1 #[oF, p1] false) (.seq (.seq (.region i2 #[g0, g1, g2, g3, g4, g5, g6] false) (.cond (.tmp 30) (.seq (.region i3 #[r0, r1] false) .ret) .skip)) (.seq (.seq (.region i4 #[s0, s1, s2, s3, oN, s5, oM, s7, s8] false) (.cond (.tmp 40) (.seq (.region i5 #[u0] false) .ret) .skip)) rest)))))
    (hnt : fn.ntmps = 110) (hres : compRes T fn.results.toList = some [(Pos.ofNat 8, none)])
    (c0 : compOpers T 110 [p0] [p0] = some [⟨some (Pos.ofNat 8), .move (.c (.bool false)), none⟩])
    {kF kN kM : Call} (hoF : oF.op = .call kF) (hoFc : kF.callee = .value (.func fF)) (hoFa : kF.args = #[]) (hoFd : oF.dst = some 23) (hoFg : oF.guard = none)
    (c1 : compOper T 110 [oF, p1] p1 = some ⟨some (Pos.ofNat 9), .move (.t (Pos.ofNat 23)), none⟩)
    (c20 : compOper T 110 [g0, g1, g2, g3, g4, g5, g6] g0 = some ⟨some (Pos.ofNat 24), .move (.t (Pos.ofNat 9)), none⟩)
    (c21 : compOper T 110 [g0, g1, g2, g3, g4, g5, g6] g1 = some ⟨some (Pos.ofNat 25), .un .not (.t (Pos.ofNat 24)), none⟩)
    (c22 : compOper T 110 [g0, g1, g2, g3, g4, g5, g6] g2 = some ⟨some (Pos.ofNat 26), .move (.t (Pos.ofNat 25)), none⟩)
    (c23 : compOper T 110 [g0, g1, g2, g3, g4, g5, g6] g3 = some ⟨some (Pos.ofNat 27), .move (.t (Pos.ofNat 1)), some (Pos.ofNat 26, false)⟩)
    (c24 : compOper T 110 [g0, g1, g2, g3, g4, g5, g6] g4 = some ⟨some (Pos.ofNat 28), .len 1 (.t (Pos.ofNat 27)), some (Pos.ofNat 26, false)⟩)
    (c25 : compOper T 110 [g0, g1, g2, g3, g4, g5, g6] g5 = some ⟨some (Pos.ofNat 29), .bin .gtr (.t (Pos.ofNat 28)) (.c (.int .i64 (.ofNat 65536))), some (Pos.ofNat 26, false)⟩)
    (c26 : compOper T 110 [g0, g1, g2, g3, g4, g5, g6] g6 = some ⟨some (Pos.ofNat 30), .pick (.t (Pos.ofNat 26)) (.c (.bool true)) (.t (Pos.ofNat 29)), none⟩)
    (c3 : compOpers T 110 [r0, r1] [r0, r1] = some [⟨some (Pos.ofNat 31), .move (.t (Pos.ofNat 9)), none⟩, ⟨some (Pos.ofNat 8), .move (.t (Pos.ofNat 31)), none⟩])
    (c40 : compOper T 110 [s0, s1, s2, s3, oN, s5, oM, s7, s8] s0 = some ⟨some (Pos.ofNat 32), .move (.t (Pos.ofNat 0)), none⟩)
    (c41 : compOper T 110 [s0, s1, s2, s3, oN, s5, oM, s7, s8] s1 = some ⟨some (Pos.ofNat 33), .bin .geq (.t (Pos.ofNat 32)) (.c (.int .i64 (.ofNat 0))), none⟩)
    (c42 : compOper T 110 [s0, s1, s2, s3, oN, s5, oM, s7, s8] s2 = some ⟨some (Pos.ofNat 34), .move (.t (Pos.ofNat 33)), none⟩)
    (c43 : compOper T 110 [s0, s1, s2, s3, oN, s5, oM, s7, s8] s3 = some ⟨some (Pos.ofNat 35), .move (.t (Pos.ofNat 0)), some (Pos.ofNat 34, true)⟩)
    (hoN : oN.op = .call kN) (hoNc : kN.callee = .value (.func fN)) (hoNa : kN.args = #[.tmp 35]) (hoNd : oN.dst = some 36) (hoNg : guardOf [s0, s1, s2, s3, oN, s5, oM, s7, s8] oN.guard = some (some (Pos.ofNat 34, true)))
    (cN36 : compOper T 110 [s0, s1, s2, s3, oN, s5, oM, s7, s8] oN = some ⟨some (Pos.ofNat 36), .callF fN [.t (Pos.ofNat 35)], some (Pos.ofNat 34, true)⟩)
    (c45 : compOper T 110 [s0, s1, s2, s3, oN, s5, oM, s7, s8] s5 = some ⟨some (Pos.ofNat 37), .move (.t (Pos.ofNat 0)), some (Pos.ofNat 34, true)⟩)
    (hoM : oM.op = .call kM) (hoMc : kM.callee = .value (.func fM)) (hoMa : kM.args = #[.tmp 37]) (hoMd : oM.dst = some 38) (hoMg : guardOf [s0, s1, s2, s3, oN, s5, oM, s7, s8] oM.guard = some (some (Pos.ofNat 34, true)))
    (cM38 : compOper T 110 [s0, s1, s2, s3, oN, s5, oM, s7, s8] oM = some ⟨some (Pos.ofNat 38), .callF fM [.t (Pos.ofNat 37)], some (Pos.ofNat 34, true)⟩)
    (c47 : compOper T 110 [s0, s1, s2, s3, oN, s5, oM, s7, s8] s7 = some ⟨some (Pos.ofNat 39), .bin .neq (.t (Pos.ofNat 36)) (.t (Pos.ofNat 38)), some (Pos.ofNat 34, true)⟩)
    (c48 : compOper T 110 [s0, s1, s2, s3, oN, s5, oM, s7, s8] s8 = some ⟨some (Pos.ofNat 40), .pick (.t (Pos.ofNat 34)) (.t (Pos.ofNat 39)) (.c (.bool false)), none⟩)
    (hH : HRel T w.heap.size φ H w) : CallsIn Fence.wide 0 P f vs w fun e w' => e = .returned (.bool true) ∧ Below w.heap.size w w' := by
  suffices h : CallsIn Fence.wide 0 P f vs w fun e w' => ∃ u φ', e = .returned u ∧ VRel φ' (resVal [.bool true]) u ∧ Below w.heap.size w w' by
    refine CallsIn.mono h ?_
    rintro e w' ⟨u, φ', rfl, hv, hb⟩
    have hv : u = .bool true := hv
    subst hv
    exact ⟨rfl, hb⟩
  refine calls_of_wp (l := [.bool true]) (H := H) (φ := φ) hT hf hb hres ?_
  rw [hnt]
  have hact : ActRel φ 110 ⟨tput (tput (tput (tput .l (some (Pos.ofNat 0)) (.int .i64 gen)) (some (Pos.ofNat 1)) xv) (some (Pos.ofNat 2)) (.int .i64 at')) (some (Pos.ofNat 3)) (.int .i64 to'), []⟩ { tmps := vs ++ Array.replicate (110 - vs.size) undef, defers := [] } :=
    act_start (args := [.int .i64 gen, xv, .int .i64 at', .int .i64 to']) rfl hl (by decide)
  generalize ({ tmps := vs ++ Array.replicate (110 - vs.size) undef, defers := [] } : Act) = ac at hact ⊢
  refine wpIn_seq (qregion_ok hT c0 hH hact rfl fun a1 hact => ?_)
  refine wpIn_seq (wpIn_region_list ?_)
  show wpListIn _ _ _ #[oF, p1] _ [oF, p1] a1 w
  refine step_call hact (g := none) (by rw [hoFg]; rfl) rfl hoF hoFc (args := #[]) (by rw [hoFa]; simp) (fun w => run_callFunc hfF hnF hbF) hfirst ?_
  rintro e w1 ⟨rfl, hb1⟩
  refine ⟨_, rfl, ?_⟩
  have hH1 := hH.grown hb1
  have hact2 := hact.put (o := oF) (d := some (Pos.ofNat 23)) (by rw [hoFd]; rfl) (show VRel φ (.bool true) (.bool true) from rfl)
  generalize a1.put oF.dst (.bool true) = a2 at hact2 ⊢
  refine step_q (.bool true) hT hH1 hact2 c1 rfl (qq_move (by simp [AOpnd.ev, tget_puts])) fun a3 hact => ?_
  simp only [wpListIn, Exit.then]
  refine wpIn_seq (wpIn_seq (wpIn_region_list ?_))
  show wpListIn _ _ _ #[g0, g1, g2, g3, g4, g5, g6] _ [g0, g1, g2, g3, g4, g5, g6] a3 w1
  refine step_q (.bool true) hT hH1 hact c20 rfl (qq_move (by simp [AOpnd.ev, tget_puts])) fun a4 hact => ?_
  refine step_q (.bool false) hT hH1 hact c21 rfl (by simp [quiet, AOpnd.ev, tget_puts]) fun a5 hact => ?_
  refine step_q (.bool false) hT hH1 hact c22 rfl (qq_move (by simp [AOpnd.ev, tget_puts])) fun a6 hact => ?_
  refine step_q xv hT hH1 hact c23 (w_yes (by simp [pget_puts])) (qq_move (by simp [AOpnd.ev, tget_puts])) fun a7 hact => ?_
  refine step_q (.int .i64 (.ofNat N)) hT hH1 hact c24 (w_yes (by simp [pget_puts])) (hlen _ (by simp [tget_puts])) fun a8 hact => ?_
  refine step_q (.bool (Nat.blt 65536 N)) hT hH1 hact c25 (w_yes (by simp [pget_puts])) (qq_bin (vx := .int .i64 (.ofNat N)) (vy := .int .i64 (.ofNat 65536)) (by simp [AOpnd.ev, tget_puts]) rfl rfl) fun a9 hact => ?_
  refine step_q (.bool (Nat.blt 65536 N)) hT hH1 hact c26 rfl (by simp [quiet, AOpnd.ev, tget_puts]) fun a10 hact => ?_
  simp only [wpListIn]
  have hv30 : a10.eval (.tmp 30) = .bool (Nat.blt 65536 N) := by
    have := hact.t.2.2 30 (by decide)
    rw [tget_puts _ (by decide) (by decide)] at this
    simp only [reduceIte] at this
    exact this
  cases hbig : Nat.blt 65536 N with
  | true =>
    rw [hbig] at hv30 hact
    refine wpIn_cond_true hv30 ?_
    have short : ∀ (t : PT AVal) (ac : Act) (K : Act → World → Prop), ActRel φ 110 ⟨t, []⟩ ac → tget t (Pos.ofNat 9) = .bool true → Code.wpIn (FR none) 0 P (.seq (.region i3 #[r0, r1] false) .ret) (Exit.then K (fun e a' w' => ∃ t' H', resultA t' H' [(Pos.ofNat 8, none)] = some [.bool true] ∧ Post T w.heap.size φ H w 110 .ret ⟨t', []⟩ H' e a' w')) ac w1 := by
      intro t ac K hact h9
      obtain ⟨t', hq, h8⟩ : ∃ t', qops H [⟨some (Pos.ofNat 31), .move (.t (Pos.ofNat 9)), none⟩, ⟨some (Pos.ofNat 8), .move (.t (Pos.ofNat 31)), none⟩] t = some t' ∧ tget t' (Pos.ofNat 8) = .bool true := by
        refine qcons (.bool true) rfl (qq_move (by simp [AOpnd.ev, h9])) ?_
        refine qcons (.bool true) rfl (qq_move (by simp [AOpnd.ev, tget_puts])) ?_
        exact qnil (by simp [tget_puts])
      refine wpIn_seq (qregion_ok hT c3 hH1 hact hq fun a11 hact => ?_)
      exact wpIn_ret ⟨t', H, by simp [resultA, h8], rfl, φ, ⟨Ext.refl _ _, hH1, hb1⟩, hact⟩
    exact short _ _ _ hact (by simp [tget_puts])
  | false =>
    rw [hbig] at hv30 hact
    have hN' : N ≤ 65536 := by
      rcases Nat.lt_or_ge 65536 N with h | h
      · rw [← Nat.blt_eq] at h; rw [h] at hbig; cases hbig
      · exact h
    refine wpIn_cond_false hv30 (wpIn_skip ?_)
    simp only [Exit.then]
    -- behind the names
    have fin : ∀ (t : PT AVal) (ac : Act) (w2 : World), HRel T w.heap.size φ H w2 → Below w.heap.size w w2 → ActRel φ 110 ⟨t, []⟩ ac → tget t (Pos.ofNat 40) = .bool false → tget t (Pos.ofNat 0) = .int .i64 gen → tget t (Pos.ofNat 1) = xv → tget t (Pos.ofNat 2) = .int .i64 at' → tget t (Pos.ofNat 3) = .int .i64 to' →
        Code.wpIn (FR none) 0 P (.cond (.tmp 40) (.seq (.region i5 #[u0] false) .ret) .skip) (Exit.then (fun a' w' => Code.wpIn (FR none) 0 P rest (fun e a' w' => ∃ t' H', resultA t' H' [(Pos.ofNat 8, none)] = some [.bool true] ∧ Post T w.heap.size φ H w 110 .ret ⟨t', []⟩ H' e a' w') a' w')
          (fun e a' w' => ∃ t' H', resultA t' H' [(Pos.ofNat 8, none)] = some [.bool true] ∧ Post T w.heap.size φ H w 110 .ret ⟨t', []⟩ H' e a' w')) ac w2 := by
      intro t ac w2 hH2 hb2 hact h40 h0 h1 h2 h3
      have hv40 : ac.eval (.tmp 40) = .bool false := by
        have := hact.t.2.2 40 (by decide)
        rw [h40] at this
        exact this
      refine wpIn_cond_false hv40 (wpIn_skip ?_)
      simp only [Exit.then]
      obtain ⟨n, ⟨t9, ds9⟩, H9, hev, hds, h8⟩ := hrest hN' t h0 h1 h2 h3
      have hds : ds9 = [] := hds
      subst hds
      have := hsound n rest 110 none none ⟨t, []⟩ H φ ac w2 hH2 hact trivial (e := .ret) (aa' := ⟨t9, []⟩) (H' := H9) (by rw [← hev, ← hrestA]; rfl)
      refine wpIn_mono this ?_
      rintro e a' w' ⟨rfl, φ', hS, hact'⟩
      have h8 : tget t9 (Pos.ofNat 8) = .bool true := h8
      exact ⟨t9, H9, by simp [resultA, h8], rfl, φ', ⟨hS.ext, hS.rel, hb2.trans hS.below⟩, hact'⟩
    refine wpIn_seq (wpIn_seq (wpIn_region_list ?_))
    show wpListIn _ _ _ #[s0, s1, s2, s3, oN, s5, oM, s7, s8] _ [s0, s1, s2, s3, oN, s5, oM, s7, s8] a10 w1
    refine step_q (.int .i64 gen) hT hH1 hact c40 rfl (qq_move (by simp [AOpnd.ev, tget_puts])) fun a11 hact => ?_
    refine step_q (.bool (!(ltI gen 0))) hT hH1 hact c41 rfl (qq_bin (vx := .int .i64 gen) (vy := .int .i64 0) (by simp [AOpnd.ev, tget_puts]) rfl rfl) fun a12 hact => ?_
    refine step_q (.bool (!(ltI gen 0))) hT hH1 hact c42 rfl (qq_move (by simp [AOpnd.ev, tget_puts])) fun a13 hact => ?_
    cases hlt : ltI gen 0 with
    | true =>
      rw [hlt] at hact
      refine step_skip hact c43 (w_no' (by simp [pget_puts])) fun a14 hact => ?_
      refine step_skip hact cN36 (w_no' (by simp [pget_puts])) fun a15 hact => ?_
      refine step_skip hact c45 (w_no' (by simp [pget_puts])) fun a16 hact => ?_
      refine step_skip hact cM38 (w_no' (by simp [pget_puts])) fun a17 hact => ?_
      refine step_skip hact c47 (w_no' (by simp [pget_puts])) fun a18 hact => ?_
      refine step_q (.bool false) hT hH1 hact c48 rfl (by simp [quiet, AOpnd.ev, tget_puts]) fun a19 hact => ?_
      simp only [wpListIn]
      exact fin _ a19 w1 hH1 hb1 hact (by simp [tget_puts]) (by simp [tget_puts]) (by simp [tget_puts]) (by simp [tget_puts]) (by simp [tget_puts])
    | false =>
      rw [hlt] at hact
      refine step_q (.int .i64 gen) hT hH1 hact c43 (w_yes' (by simp [pget_puts])) (qq_move (by simp [AOpnd.ev, tget_puts])) fun a14 hact => ?_
      have e35 : a14.eval (.tmp 35) = .int .i64 gen := by
        have := hact.t.2.2 35 (by decide)
        rw [tget_puts _ (by decide) (by decide)] at this
        simp only [reduceIte] at this
        exact this
      refine step_call hact hoNg (w_yes' (by simp [pget_puts])) hoN hoNc (args := #[.int .i64 gen]) (by rw [hoNa]; simp [e35]) (fun w => run_callFunc hfN hnN hbN) (hN w1 hb1) ?_
      rintro e w2 ⟨un, rfl, hvn, hb2⟩
      refine ⟨un, rfl, ?_⟩
      have hH2 := hH1.grown hb2
      have hB2 := hb1.trans (hb2.mono hb1.size)
      have hact2 := hact.put (o := oN) (d := some (Pos.ofNat 36)) (by rw [hoNd]; rfl) hvn
      generalize a14.put oN.dst un = a15 at hact2 ⊢
      refine step_q (.int .i64 gen) hT hH2 hact2 c45 (w_yes' (by simp [pget_puts])) (qq_move (by simp [AOpnd.ev, tget_puts])) fun a16 hact => ?_
      have e37 : a16.eval (.tmp 37) = .int .i64 gen := by
        have := hact.t.2.2 37 (by decide)
        rw [tget_puts _ (by decide) (by decide)] at this
        simp only [reduceIte] at this
        exact this
      refine step_call hact hoMg (w_yes' (by simp [pget_puts])) hoM hoMc (args := #[.int .i64 gen]) (by rw [hoMa]; simp [e37]) (fun w => run_callFunc hfM hnM hbM) (hM w2 hB2) ?_
      rintro e w3 ⟨um, rfl, hvm, hb3⟩
      refine ⟨um, rfl, ?_⟩
      have hH3 := hH2.grown hb3
      have hB3 := hB2.trans (hb3.mono hB2.size)
      have hact2 := hact.put (o := oM) (d := some (Pos.ofNat 38)) (by rw [hoMd]; rfl) hvm
      generalize a16.put oM.dst um = a17 at hact2 ⊢
      refine step_q (.bool false) hT hH3 hact2 c47 (w_yes' (by simp [pget_puts])) (qq_bin (vx := .str s) (vy := .str s) (by simp [AOpnd.ev, tget_puts]) (by simp [AOpnd.ev, tget_puts]) (by simp [binOpA, strBin, strEq_refl])) fun a18 hact => ?_
      refine step_q (.bool false) hT hH3 hact c48 rfl (by simp [quiet, AOpnd.ev, tget_puts]) fun a19 hact => ?_
      simp only [wpListIn]
      exact fin _ a19 w3 hH3 hB3 hact (by simp [tget_puts]) (by simp [tget_puts]) (by simp [tget_puts]) (by simp [tget_puts]) (by simp [tget_puts])
end
end Go.Am
end

section
namespace Go.Am
open Go Go.RowKit

/-- The heap that holds an argument's cells alone (not to be written). -/
theorem HRel.arg {T : Tys} {W : World} (hng : T.ng ≤ W.heap.size) (h31 : T.ng < 2147483647) {c s : Nat} {arr : Array Value} {e : TypeId} {fz : Nat × Nat} {l : List AVal} (hc : W.heap[c]? = some (.cells arr e fz)) (hs : s + l.length ≤ arr.size)
    (hl : ∀ i a, l[i]? = some a → ∃ v, arr[s + i]? = some v ∧ ∀ φ, VRel φ a v) :
    ∃ φ : Emb, φ (Pos.ofNat T.ng) = some ⟨c, s, arr.size⟩ ∧ HRel T W.heap.size φ ⟨PT.set (Pos.ofNat T.ng) (some (.cells l false true)) .l, (Pos.ofNat T.ng).succ⟩ W := by
  have hto : ∀ g, g < 2 ^ 31 → (Pos.ofNat g).toNat = g + 1 := fun g hg => Pos.toNat_ofNat hg
  have hng' : (Pos.ofNat T.ng).toNat = T.ng + 1 := hto _ (by omega)
  have hpb : Pos.beq (Pos.ofNat T.ng) (Pos.ofNat T.ng) = true := Pos.beq_eq.2 rfl
  have hcs : c < W.heap.size := (Array.getElem?_eq_some_iff.1 hc).1
  refine ⟨fun p => match Pos.beq p (Pos.ofNat T.ng) with | true => some ⟨c, s, arr.size⟩ | false => globEmb W T.ng p, by simp only [hpb], ?_⟩
  have hget : ∀ p o, PT.get p (PT.set (Pos.ofNat T.ng) (some (AObj.cells l false true)) (.l : PT AObj)) = some o → p = Pos.ofNat T.ng ∧ o = .cells l false true := by
    intro p o h
    by_cases hp : Pos.ofNat T.ng = p
    · subst hp
      rw [PT.get_set_same] at h
      exact ⟨rfl, (Option.some.inj h).symm⟩
    · rw [PT.get_set_other _ _ _ _ hp, get_nil] at h
      cases h
  have hem : ∀ p x, (match Pos.beq p (Pos.ofNat T.ng) with | true => some (⟨c, s, arr.size⟩ : Place) | false => globEmb W T.ng p) = some x → (p = Pos.ofNat T.ng ∧ x = ⟨c, s, arr.size⟩) ∨ (p.toNat ≤ T.ng ∧ x.c = p.toNat - 1) := by
    intro p x h
    split at h
    · rename_i hb
      exact .inl ⟨Pos.beq_eq.1 hb, (Option.some.inj h).symm⟩
    · unfold globEmb at h
      split at h
      · rename_i hb
        cases h
        exact .inr ⟨Nat.le_of_ble_eq_true hb, rfl⟩
      · cases h
  refine ⟨fun p o x hp hx => ?_, fun p q x y hpq hp hq _ _ => ?_, fun p x hx => ?_, fun p hp => ?_, Nat.le_refl _, fun g hg => ?_⟩
  · obtain ⟨rfl, rfl⟩ := hget p o hp
    rcases hem _ x hx with ⟨_, rfl⟩ | ⟨h, _⟩
    · obtain ⟨lo, hi⟩ := fz
      refine ⟨arr, e, lo, hi, hc, rfl, hs, fun i a hi => ?_, .inr (.inr rfl), fun _ h => (by cases h), fun h => (by cases h)⟩
      obtain ⟨v, h1, h2⟩ := hl i a hi
      exact ⟨v, h1, h2 _⟩
    · rw [hng'] at h; omega
  · cases hp' : PT.get p (PT.set (Pos.ofNat T.ng) (some (AObj.cells l false true)) (.l : PT AObj)) with
    | none => exact absurd hp' hp
    | some o =>
      cases hq' : PT.get q (PT.set (Pos.ofNat T.ng) (some (AObj.cells l false true)) (.l : PT AObj)) with
      | none => exact absurd hq' hq
      | some o' => exact absurd ((hget p o hp').1.trans (hget q o' hq').1.symm) hpq
  · show p.toNat < (Pos.ofNat T.ng).succ.toNat ∧ _
    rw [Pos.toNat_succ, hng']
    rcases hem p x hx with ⟨rfl, rfl⟩ | ⟨h, h'⟩
    · exact ⟨by rw [hng']; omega, hcs⟩
    · have := Pos.toNat_pos p
      exact ⟨by omega, by rw [h']; omega⟩
  · show p.toNat < (Pos.ofNat T.ng).succ.toNat
    rw [Pos.toNat_succ, hng']
    cases hp' : PT.get p (PT.set (Pos.ofNat T.ng) (some (AObj.cells l false true)) (.l : PT AObj)) with
    | none => exact absurd hp' hp
    | some o =>
      obtain ⟨rfl, _⟩ := hget p o hp'
      rw [hng']; omega
  · have hb : Pos.beq (Pos.ofNat g) (Pos.ofNat T.ng) = false := by
      cases h : Pos.beq (Pos.ofNat g) (Pos.ofNat T.ng) with
      | false => rfl
      | true =>
        have := congrArg Pos.toNat (Pos.beq_eq.1 h)
        rw [hto g (by omega), hng'] at this
        omega
    have hex : ∃ k, globEmb W T.ng (Pos.ofNat g) = some ⟨g, 0, k⟩ := by
      unfold globEmb
      rw [hto g (by omega)]
      have : Nat.ble (g + 1) T.ng = true := Nat.ble_eq_true_of_le (by omega)
      rw [this]
      exact ⟨_, rfl⟩
    obtain ⟨k, hk⟩ := hex
    exact ⟨k, by simp only [hb]; exact hk⟩
end Go.Am
end
