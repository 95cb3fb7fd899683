/- Part of the proof: AmLawKit. -/
import Derived.Test.YtpphacngohhmhaaGreatDoorAm23
import Derived.Lib.ItoaLen
set_option linter.unusedSimpArgs false
set_option linter.unusedVariables false
section
namespace Go.Am
open Go Go.RowKit

/-! Steps of a walk, op by op, with guards and with calls that are known by a contract. -/
section
variable {P : Program} {T : Tys} {B : Nat} {φ : Emb} {H : AHeap} {w : World} {nt : Nat} {t : PT AVal} {a : Act} {ops : Array Oper} {rest : List Oper} {o : Oper} {r : Option Nat} {Q : Exit → Act → World → Prop} {ds : List ADef}

theorem step_q {ao : AOper} (v : AVal) (hT : TOk2 T P) (hH : HRel T B φ H w) (hact : ActRel φ nt ⟨t, ds⟩ a) (hc : compOper T nt ops.toList o = some ao) (hw : wantedA t ao.guard = some true) (hq : quiet t H ao.op = some v)
    (hk : ∀ a', ActRel φ nt ⟨tput t ao.dst v, ds⟩ a' → wpListIn (FR r) 0 P ops Q rest a' w) : wpListIn (FR r) 0 P ops Q (o :: rest) a w := by
  obtain ⟨hg, hd, hop⟩ := compOper_inv hc
  rcases hop with hop | hop
  · obtain ⟨u, hu, hvu⟩ := quiet_ok hT hH hact.t hop hq
    simp only [wpListIn]
    rw [wanted_ok hact.t hg hw, if_pos rfl]
    refine ⟨about_FR, ?_⟩
    rw [Oper.semAt_eq _ _ _ (not_defer_of_quiet hop hq), hu]
    exact hk _ (hact.put hd hvu)
  · rw [hop] at hq; simp [quiet] at hq
theorem step_skip {ao : AOper} (hact : ActRel φ nt ⟨t, ds⟩ a) (hc : compOper T nt ops.toList o = some ao) (hw : wantedA t ao.guard = some false)
    (hk : ∀ a', ActRel φ nt ⟨tput t ao.dst .undef, ds⟩ a' → wpListIn (FR r) 0 P ops Q rest a' w) : wpListIn (FR r) 0 P ops Q (o :: rest) a w := by
  obtain ⟨hg, hd, hop⟩ := compOper_inv hc
  simp only [wpListIn]
  rw [wanted_ok hact.t hg hw, if_neg (by simp)]
  exact ⟨about_FR, hk _ (hact.put hd VRel.undef)⟩
theorem step_call {g : Option (Pos × Bool)} (hact : ActRel φ nt ⟨t, ds⟩ a) (hg : guardOf ops.toList o.guard = some g) (hw : wantedA t g = some true) {c : Call} {f : FuncId} (hop : o.op = .call c) (hcal : c.callee = .value (.func f)) {args : Array Value} (hargs : c.args.map a.eval = args)
    (he : ∀ w, (callFunc f args).run P w = .ok (.enter f args) w) {n : Nat} {R : Ending → World → Prop} (hR : CallsIn Fence.wide n P f args w R) (hk : ∀ e w', R e w' → ∃ u, e = .returned u ∧ wpListIn (FR r) 0 P ops Q rest (a.put o.dst u) w') :
    wpListIn (FR r) 0 P ops Q (o :: rest) a w := by
  simp only [wpListIn]
  rw [wanted_ok hact.t hg hw, if_pos rfl]
  refine ⟨about_FR, ?_⟩
  rw [Oper.semAt_eq _ _ _ (by rw [hop]; intro c hc; cases hc)]
  have hrun : (execOp a.eval o).run P w = (callFunc f args).run P w := by
    simp only [execOp, hop, resolve, hcal, Act.eval, Deferred.ofValue, Sem.run_bind, Sem.run_pure, Result.andThen_ok, invoke]
    rw [← hargs]
    simp
  rw [hrun, he w]
  refine ⟨FR_depth' r, callsIn_FR (CallsIn.mono hR fun e w' hR' => ?_)⟩
  obtain ⟨u, rfl, h⟩ := hk e w' hR'
  exact h

theorem pget_puts (t : PT AVal) {p q : Nat} (hp : p < 2147483648) (hq : q < 2147483648) (v : AVal) : PT.get (Pos.ofNat q) (tput t (some (Pos.ofNat p)) v) = if p = q then some v else PT.get (Pos.ofNat q) t := by
  unfold tput
  by_cases e : p = q
  · subst e; simp [PT.get_set_same]
  · rw [if_neg e]
    exact PT.get_set_other _ _ _ _ (fun h => e (Pos.ofNat_inj hp hq h))
end

/-- The bytes as numbers. -/
def nums (l : List UInt8) : List Nat := l.map UInt8.toNat
theorem vrel_nums {φ : Emb} (l : List UInt8) : VRel φ (.str (nums l)) (.string ⟨l.toArray⟩) := by
  refine ⟨?_, fun x hx => ?_⟩
  · congr 2
    have : (UInt8.ofNat ∘ UInt8.toNat) = id := by funext b; simp
    simp [nums, this]
  · obtain ⟨y, _, rfl⟩ := List.mem_map.1 hx
    exact y.toNat_lt
theorem nums_length (l : List UInt8) : (nums l).length = l.length := by simp [nums]

def nameNum (a b : Int) : List Nat := [120, 46] ++ nums (Lib.itoa a) ++ [46] ++ nums (Lib.itoa b)

section
variable {P : Program} {T : Tys} {B : Nat} {φ : Emb} {H : AHeap} {w : World}

theorem strEq_refl : ∀ s, strEq s s = true
  | [] => rfl
  | a :: l => by simp [strEq, strEq_refl l]
theorem Below.wide {a b c : World} (h : Below a.heap.size a b) (h' : Below b.heap.size b c) : Below a.heap.size a c := h.trans (h'.mono h.size)

/-- "x." and two numbers. -/
theorem name_calls (hT : TOk2 T P) {f fi : FuncId} {fn fni : Func} {ci : Code} (hf : P.funcs[f]? = some fn) (hfi : P.funcs[fi]? = some fni) (hni : (fni.name == "runtime.NumGoroutine") = false) (hbi : fni.body = some ci) {Tab : World → Prop} (htl : ∀ w w', Tab w → Below w.heap.size w w' → Tab w')
    (hitoa : ∀ (n : Int) (w : World), -9223372036854775808 ≤ n → n ≤ 9223372036854775807 → Tab w → CallsIn Fence.wide 0 P fi #[.int .i64 n] w fun e w' => e = .returned (.string ⟨(Lib.itoa n).toArray⟩) ∧ Below w.heap.size w w')
    {i0 i1 : Nat} {p0 m0 oA b0 b1 m1 oB b2 a2 : Oper} (hb : fn.body = some (.seq (.region i0 #[p0] false) (.seq (.region i1 #[m0, oA, b0, b1, m1, oB, b2, a2] false) .ret)))
    (hnt : fn.ntmps = 12) (hres : compRes T fn.results.toList = some [(Pos.ofNat 4, none)])
    (c0 : compOpers T 12 [p0] [p0] = some [⟨some (Pos.ofNat 4), .move (.c (.str [])), none⟩])
    (k0 : compOper T 12 [m0, oA, b0, b1, m1, oB, b2, a2] m0 = some ⟨some (Pos.ofNat 5), .move (.t (Pos.ofNat 0)), none⟩)
    {cA cB : Call} (kA : oA.op = .call cA) (kAc : cA.callee = .value (.func fi)) (kAa : cA.args = #[.tmp 5]) (kAd : oA.dst = some 6) (kAg : oA.guard = none)
    (k1 : compOper T 12 [m0, oA, b0, b1, m1, oB, b2, a2] b0 = some ⟨some (Pos.ofNat 7), .bin .add (.c (.str [120, 46])) (.t (Pos.ofNat 6)), none⟩)
    (k2 : compOper T 12 [m0, oA, b0, b1, m1, oB, b2, a2] b1 = some ⟨some (Pos.ofNat 8), .bin .add (.t (Pos.ofNat 7)) (.c (.str [46])), none⟩)
    (k3 : compOper T 12 [m0, oA, b0, b1, m1, oB, b2, a2] m1 = some ⟨some (Pos.ofNat 9), .move (.t (Pos.ofNat 1)), none⟩)
    (kB : oB.op = .call cB) (kBc : cB.callee = .value (.func fi)) (kBa : cB.args = #[.tmp 9]) (kBd : oB.dst = some 10) (kBg : oB.guard = none)
    (k4 : compOper T 12 [m0, oA, b0, b1, m1, oB, b2, a2] b2 = some ⟨some (Pos.ofNat 11), .bin .add (.t (Pos.ofNat 8)) (.t (Pos.ofNat 10)), none⟩)
    (k5 : compOper T 12 [m0, oA, b0, b1, m1, oB, b2, a2] a2 = some ⟨some (Pos.ofNat 4), .move (.t (Pos.ofNat 11)), none⟩)
    {a b : Int} (ha0 : -9223372036854775808 ≤ a) (ha1 : a ≤ 9223372036854775807) (hb0 : -9223372036854775808 ≤ b) (hb1 : b ≤ 9223372036854775807) (hname : (fn.name == "runtime.NumGoroutine") = false) (hH : HRel T w.heap.size φ H w) (htab : Tab w) :
    CallsIn Fence.wide 0 P f #[.int .i64 a, .int .i64 b] w fun e w' => ∃ u, e = .returned u ∧ VRel φ (.str (nameNum a b)) u ∧ Below w.heap.size w w' := by
  have la := Lib.itoa_length_le a ha0 ha1
  have lb := Lib.itoa_length_le b hb0 hb1
  have hfin : Returns P T w.heap.size φ H w f #[.int .i64 a, .int .i64 b] (.str (nameNum a b)) H := by
    refine returns_of_wp (l := [.str (nameNum a b)]) (ex := .ret) hT hf hname hb hres (.inr rfl) ?_
    rw [hnt]
    have hact : ActRel φ 12 ⟨tput (tput .l (some (Pos.ofNat 0)) (.int .i64 a)) (some (Pos.ofNat 1)) (.int .i64 b), []⟩ { tmps := #[.int .i64 a, .int .i64 b] ++ Array.replicate (12 - (#[Value.int .i64 a, Value.int .i64 b] : Array Value).size) undef, defers := [] } :=
      act_start (args := [.int .i64 a, .int .i64 b]) rfl ⟨_, _, rfl, rfl, _, _, rfl, rfl, rfl⟩ (by decide)
    generalize ({ tmps := #[.int .i64 a, .int .i64 b] ++ Array.replicate (12 - (#[Value.int .i64 a, Value.int .i64 b] : Array Value).size) undef, defers := [] } : Act) = ac at hact ⊢
    refine wpIn_seq (qregion_ok hT c0 hH hact rfl fun a1 hact => ?_)
    refine wpIn_seq (wpIn_region_list ?_)
    show wpListIn _ _ _ #[m0, oA, b0, b1, m1, oB, b2, a2] _ [m0, oA, b0, b1, m1, oB, b2, a2] a1 w
    refine step_q (.int .i64 a) hT hH hact k0 rfl (qq_move (by simp [AOpnd.ev, tget_puts])) fun a2 hact => ?_
    have e5 : a2.eval (.tmp 5) = .int .i64 a := by
      have := hact.t.2.2 5 (by decide)
      simp only [tget_puts _ (show 5 < 2147483648 by decide) (show 5 < 2147483648 by decide), if_true] at this
      exact this
    refine step_call hact (g := none) (by rw [kAg]; rfl) rfl kA kAc (args := #[.int .i64 a]) (by rw [kAa]; simp [e5]) (fun w => run_callFunc hfi hni hbi) (hitoa a w ha0 ha1 htab) ?_
    rintro e w1 ⟨rfl, hb1'⟩
    refine ⟨_, rfl, ?_⟩
    have hH1 := hH.grown hb1'
    have hact2 := hact.put (o := oA) (d := some (Pos.ofNat 6)) (by rw [kAd]; rfl) (vrel_nums (φ := φ) (Lib.itoa a))
    generalize a2.put oA.dst (.string ⟨(Lib.itoa a).toArray⟩) = a3 at hact2 ⊢
    have hadd : ∀ x y : List Nat, x.length ≤ 100 → y.length ≤ 100 → binOpA .add (.str x) (.str y) = some (.str (x ++ y)) := by
      intro x y hx hy
      have : Nat.ble (Nat.add x.length y.length) 9223372036854775807 = true := Nat.ble_eq_true_of_le (by show x.length + y.length ≤ _; omega)
      simp only [binOpA, strBin, this]
    refine step_q (.str ([120, 46] ++ nums (Lib.itoa a))) hT hH1 hact2 k1 rfl (qq_bin (vx := .str [120, 46]) (vy := .str (nums (Lib.itoa a))) rfl (by simp [AOpnd.ev, tget_puts]) (hadd _ _ (by decide) (by rw [nums_length]; omega))) fun a4 hact => ?_
    refine step_q (.str ([120, 46] ++ nums (Lib.itoa a) ++ [46])) hT hH1 hact k2 rfl (qq_bin (vx := .str ([120, 46] ++ nums (Lib.itoa a))) (vy := .str [46]) (by simp [AOpnd.ev, tget_puts]) rfl (hadd _ _ (by simp [nums_length]; omega) (by decide))) fun a5 hact => ?_
    refine step_q (.int .i64 b) hT hH1 hact k3 rfl (qq_move (by simp [AOpnd.ev, tget_puts])) fun a6 hact => ?_
    have e9 : a6.eval (.tmp 9) = .int .i64 b := by
      have := hact.t.2.2 9 (by decide)
      simp only [tget_puts _ (show 9 < 2147483648 by decide) (show 9 < 2147483648 by decide), if_true] at this
      exact this
    refine step_call hact (g := none) (by rw [kBg]; rfl) rfl kB kBc (args := #[.int .i64 b]) (by rw [kBa]; simp [e9]) (fun w => run_callFunc hfi hni hbi) (hitoa b w1 hb0 hb1 (htl w w1 htab hb1')) ?_
    rintro e w2 ⟨rfl, hb2'⟩
    refine ⟨_, rfl, ?_⟩
    have hH2 := hH1.grown hb2'
    have hact2 := hact.put (o := oB) (d := some (Pos.ofNat 10)) (by rw [kBd]; rfl) (vrel_nums (φ := φ) (Lib.itoa b))
    generalize a6.put oB.dst (.string ⟨(Lib.itoa b).toArray⟩) = a7 at hact2 ⊢
    refine step_q (.str (nameNum a b)) hT hH2 hact2 k4 rfl (qq_bin (vx := .str ([120, 46] ++ nums (Lib.itoa a) ++ [46])) (vy := .str (nums (Lib.itoa b))) (by simp [AOpnd.ev, tget_puts]) (by simp [AOpnd.ev, tget_puts]) (hadd _ _ (by simp [nums_length]; omega) (by rw [nums_length]; omega))) fun a8 hact => ?_
    refine step_q (.str (nameNum a b)) hT hH2 hact k5 rfl (qq_move (by simp [AOpnd.ev, tget_puts])) fun a9 hact => ?_
    simp only [wpListIn, Exit.then]
    refine wpIn_ret ⟨_, ?_, rfl, φ, ⟨Ext.refl _ _, hH2, Below.wide hb1' hb2'⟩, hact⟩
    simp [resultA, tget_puts]
  refine CallsIn.mono hfin.2 ?_
  rintro e w' ⟨u, φ', rfl, hv, hS⟩
  have : VRel φ (.str (nameNum a b)) u := hv
  exact ⟨u, rfl, this, hS.below⟩

/-- The law: behind the closed play both names are one. -/
theorem law_names (hT : TOk2 T P) {f fF fN fM : FuncId} {fn fnF fnN fnM : Func} {cF cN cM : Code} (hf : P.funcs[f]? = some fn) (hname : (fn.name == "runtime.NumGoroutine") = false)
    (hfF : P.funcs[fF]? = some fnF) (hnF : (fnF.name == "runtime.NumGoroutine") = false) (hbF : fnF.body = some cF) (hfN : P.funcs[fN]? = some fnN) (hnN : (fnN.name == "runtime.NumGoroutine") = false) (hbN : fnN.body = some cN) (hfM : P.funcs[fM]? = some fnM) (hnM : (fnM.name == "runtime.NumGoroutine") = false) (hbM : fnM.body = some cM)
    {H1 : AHeap} (hfirst : Returns P T w.heap.size φ H w fF #[] (.bool true) H1) {a b : Int}
    (hN : ∀ (φ' : Emb) (w' : World), Sim T w.heap.size φ H w φ' H1 w' → CallsIn Fence.wide 0 P fN #[.int .i64 a, .int .i64 b] w' fun e w'' => ∃ u, e = .returned u ∧ VRel φ' (.str (nameNum a b)) u ∧ Below w'.heap.size w' w'')
    (hM : ∀ (φ' : Emb) (w' : World), Sim T w.heap.size φ H w φ' H1 w' → CallsIn Fence.wide 0 P fM #[.int .i64 a, .int .i64 b] w' fun e w'' => ∃ u, e = .returned u ∧ VRel φ' (.str (nameNum a b)) u ∧ Below w'.heap.size w' w'')
    {i0 i1 i2 i3 i4 i5 : Nat} {p0 oF p1 g0 g1 g2 g3 g4 g5 r0 r1 s0 s1 oN s2 u0 u1 u2 u3 u4 oM u6 u7 u8 : Oper}
    (hb : fn.body = some (.seq (.region i0 #[p0] false) (.seq (.region i1 #[oF, p1] false) (.seq (.seq (.region i2 #[g0, g1, g2, g3, g4, g5] false) (.cond (.tmp 13) (.seq (.region i3 #[r0, r1] false) .ret) .skip)) (.seq (.region i4 #[s0, s1, oN, s2] false) (.seq (.region i5 #[u0, u1, u2, u3, u4, oM, u6, u7, u8] false) .ret))))))
    (hnt : fn.ntmps = 26) (hres : compRes T fn.results.toList = some [(Pos.ofNat 4, none)])
    (c0 : compOpers T 26 [p0] [p0] = some [⟨some (Pos.ofNat 4), .move (.c (.bool false)), none⟩])
    {kF kN kM : Call} (hoF : oF.op = .call kF) (hoFc : kF.callee = .value (.func fF)) (hoFa : kF.args = #[]) (hoFd : oF.dst = some 7) (hoFg : oF.guard = none)
    (c1 : compOper T 26 [oF, p1] p1 = some ⟨some (Pos.ofNat 5), .move (.t (Pos.ofNat 7)), none⟩)
    (c20 : compOper T 26 [g0, g1, g2, g3, g4, g5] g0 = some ⟨some (Pos.ofNat 8), .move (.t (Pos.ofNat 0)), none⟩)
    (c21 : compOper T 26 [g0, g1, g2, g3, g4, g5] g1 = some ⟨some (Pos.ofNat 9), .bin .lss (.t (Pos.ofNat 8)) (.c (.int .i64 0)), none⟩)
    (c22 : compOper T 26 [g0, g1, g2, g3, g4, g5] g2 = some ⟨some (Pos.ofNat 10), .move (.t (Pos.ofNat 9)), none⟩)
    (c23 : compOper T 26 [g0, g1, g2, g3, g4, g5] g3 = some ⟨some (Pos.ofNat 11), .move (.t (Pos.ofNat 1)), some (Pos.ofNat 10, false)⟩)
    (c24 : compOper T 26 [g0, g1, g2, g3, g4, g5] g4 = some ⟨some (Pos.ofNat 12), .bin .lss (.t (Pos.ofNat 11)) (.c (.int .i64 0)), some (Pos.ofNat 10, false)⟩)
    (c25 : compOper T 26 [g0, g1, g2, g3, g4, g5] g5 = some ⟨some (Pos.ofNat 13), .pick (.t (Pos.ofNat 10)) (.c (.bool true)) (.t (Pos.ofNat 12)), none⟩)
    (c3 : compOpers T 26 [r0, r1] [r0, r1] = some [⟨some (Pos.ofNat 14), .move (.t (Pos.ofNat 5)), none⟩, ⟨some (Pos.ofNat 4), .move (.t (Pos.ofNat 14)), none⟩])
    (c40 : compOper T 26 [s0, s1, oN, s2] s0 = some ⟨some (Pos.ofNat 15), .move (.t (Pos.ofNat 0)), none⟩)
    (c41 : compOper T 26 [s0, s1, oN, s2] s1 = some ⟨some (Pos.ofNat 16), .move (.t (Pos.ofNat 1)), none⟩)
    (hoN : oN.op = .call kN) (hoNc : kN.callee = .value (.func fN)) (hoNa : kN.args = #[.tmp 15, .tmp 16]) (hoNd : oN.dst = some 17) (hoNg : oN.guard = none)
    (c42 : compOper T 26 [s0, s1, oN, s2] s2 = some ⟨some (Pos.ofNat 6), .move (.t (Pos.ofNat 17)), none⟩)
    (c50 : compOper T 26 [u0, u1, u2, u3, u4, oM, u6, u7, u8] u0 = some ⟨some (Pos.ofNat 18), .move (.t (Pos.ofNat 5)), none⟩)
    (c51 : compOper T 26 [u0, u1, u2, u3, u4, oM, u6, u7, u8] u1 = some ⟨some (Pos.ofNat 19), .move (.t (Pos.ofNat 18)), none⟩)
    (c52 : compOper T 26 [u0, u1, u2, u3, u4, oM, u6, u7, u8] u2 = some ⟨some (Pos.ofNat 20), .move (.t (Pos.ofNat 6)), some (Pos.ofNat 19, true)⟩)
    (c53 : compOper T 26 [u0, u1, u2, u3, u4, oM, u6, u7, u8] u3 = some ⟨some (Pos.ofNat 21), .move (.t (Pos.ofNat 0)), some (Pos.ofNat 19, true)⟩)
    (c54 : compOper T 26 [u0, u1, u2, u3, u4, oM, u6, u7, u8] u4 = some ⟨some (Pos.ofNat 22), .move (.t (Pos.ofNat 1)), some (Pos.ofNat 19, true)⟩)
    (hoM : oM.op = .call kM) (hoMc : kM.callee = .value (.func fM)) (hoMa : kM.args = #[.tmp 21, .tmp 22]) (hoMd : oM.dst = some 23) (hoMg : guardOf [u0, u1, u2, u3, u4, oM, u6, u7, u8] oM.guard = some (some (Pos.ofNat 19, true)))
    (c56 : compOper T 26 [u0, u1, u2, u3, u4, oM, u6, u7, u8] u6 = some ⟨some (Pos.ofNat 24), .bin .eql (.t (Pos.ofNat 20)) (.t (Pos.ofNat 23)), some (Pos.ofNat 19, true)⟩)
    (c57 : compOper T 26 [u0, u1, u2, u3, u4, oM, u6, u7, u8] u7 = some ⟨some (Pos.ofNat 25), .pick (.t (Pos.ofNat 19)) (.t (Pos.ofNat 24)) (.c (.bool false)), none⟩)
    (c58 : compOper T 26 [u0, u1, u2, u3, u4, oM, u6, u7, u8] u8 = some ⟨some (Pos.ofNat 4), .move (.t (Pos.ofNat 25)), none⟩)
    (hH : HRel T w.heap.size φ H w) : Returns P T w.heap.size φ H w f #[.int .i64 a, .int .i64 b] (.bool true) H1 := by
  refine returns_of_wp (l := [.bool true]) (ex := .ret) hT hf hname hb hres (.inr rfl) ?_
  rw [hnt]
  have hact : ActRel φ 26 ⟨tput (tput .l (some (Pos.ofNat 0)) (.int .i64 a)) (some (Pos.ofNat 1)) (.int .i64 b), []⟩ { tmps := #[.int .i64 a, .int .i64 b] ++ Array.replicate (26 - (#[Value.int .i64 a, Value.int .i64 b] : Array Value).size) undef, defers := [] } :=
    act_start (args := [.int .i64 a, .int .i64 b]) rfl ⟨_, _, rfl, rfl, _, _, rfl, rfl, rfl⟩ (by decide)
  generalize ({ tmps := #[.int .i64 a, .int .i64 b] ++ Array.replicate (26 - (#[Value.int .i64 a, Value.int .i64 b] : Array Value).size) undef, defers := [] } : Act) = ac at hact ⊢
  refine wpIn_seq (qregion_ok hT c0 hH hact rfl fun a1 hact => ?_)
  refine wpIn_seq (wpIn_region_list ?_)
  show wpListIn _ _ _ #[oF, p1] _ [oF, p1] a1 w
  refine step_call hact (g := none) (by rw [hoFg]; rfl) rfl hoF hoFc (args := #[]) (by rw [hoFa]; simp) (fun w => run_callFunc hfF hnF hbF) hfirst.2 ?_
  rintro e w1 ⟨u, φ1, rfl, hv, hS⟩
  refine ⟨u, rfl, ?_⟩
  have hact2 := (hact.mono hS.ext.le).put (o := oF) (d := some (Pos.ofNat 7)) (by rw [hoFd]; rfl) hv
  generalize a1.put oF.dst u = a2 at hact2 ⊢
  refine step_q (.bool true) hT hS.rel hact2 c1 rfl (qq_move (by simp [AOpnd.ev, tget_puts])) fun a3 hact => ?_
  simp only [wpListIn, Exit.then]
  -- the two tests
  refine wpIn_seq (wpIn_seq (wpIn_region_list ?_))
  show wpListIn _ _ _ #[g0, g1, g2, g3, g4, g5] _ [g0, g1, g2, g3, g4, g5] a3 w1
  refine step_q (.int .i64 a) hT hS.rel hact c20 rfl (qq_move (by simp [AOpnd.ev, tget_puts])) fun a4 hact => ?_
  refine step_q (.bool (ltI a 0)) hT hS.rel hact c21 rfl (qq_bin (vx := .int .i64 a) (vy := .int .i64 0) (by simp [AOpnd.ev, tget_puts]) rfl (by simp [binOpA, kbeq, intBin])) fun a5 hact => ?_
  refine step_q (.bool (ltI a 0)) hT hS.rel hact c22 rfl (qq_move (by simp [AOpnd.ev, tget_puts])) fun a6 hact => ?_
  have both : ∀ (t : PT AVal) (ac : Act) (neg : Bool), ActRel φ1 26 ⟨t, []⟩ ac → tget t (Pos.ofNat 13) = .bool neg → tget t (Pos.ofNat 5) = .bool true → tget t (Pos.ofNat 0) = .int .i64 a → tget t (Pos.ofNat 1) = .int .i64 b →
      Code.wpIn (FR none) 0 P (.cond (.tmp 13) (.seq (.region i3 #[r0, r1] false) .ret) .skip) (Exit.then (fun a' w' => Code.wpIn (FR none) 0 P (.seq (.region i4 #[s0, s1, oN, s2] false) (.seq (.region i5 #[u0, u1, u2, u3, u4, oM, u6, u7, u8] false) .ret)) (fun e a' w' => ∃ t', resultA t' H1 [(Pos.ofNat 4, none)] = some [.bool true] ∧ Post T w.heap.size φ H w 26 .ret ⟨t', []⟩ H1 e a' w') a' w')
        (fun e a' w' => ∃ t', resultA t' H1 [(Pos.ofNat 4, none)] = some [.bool true] ∧ Post T w.heap.size φ H w 26 .ret ⟨t', []⟩ H1 e a' w')) ac w1 := by
    intro t ac neg hact h13 h5 h0 h1
    have hv13 : ac.eval (.tmp 13) = .bool neg := by
      have := hact.t.2.2 13 (by decide)
      rw [h13] at this
      exact this
    cases neg with
    | true =>
      refine wpIn_cond_true hv13 ?_
      obtain ⟨t', hq, h4⟩ : ∃ t', qops H1 [⟨some (Pos.ofNat 14), .move (.t (Pos.ofNat 5)), none⟩, ⟨some (Pos.ofNat 4), .move (.t (Pos.ofNat 14)), none⟩] t = some t' ∧ tget t' (Pos.ofNat 4) = .bool true := by
        refine qcons (.bool true) rfl (qq_move (by simp [AOpnd.ev, h5])) ?_
        refine qcons (.bool true) rfl (qq_move (by simp [AOpnd.ev, tget_puts])) ?_
        exact qnil (by simp [tget_puts])
      refine wpIn_seq (qregion_ok hT c3 hS.rel hact hq fun a7 hact => ?_)
      refine wpIn_ret ⟨t', ?_, rfl, φ1, hS, hact⟩
      simp [resultA, h4]
    | false =>
      refine wpIn_cond_false hv13 (wpIn_skip ?_)
      simp only [Exit.then]
      refine wpIn_seq (wpIn_region_list ?_)
      show wpListIn _ _ _ #[s0, s1, oN, s2] _ [s0, s1, oN, s2] ac w1
      refine step_q (.int .i64 a) hT hS.rel hact c40 rfl (qq_move (by simp [AOpnd.ev, h0])) fun a7 hact => ?_
      refine step_q (.int .i64 b) hT hS.rel hact c41 rfl (qq_move (by simp [AOpnd.ev, tget_puts, h1])) fun a8 hact => ?_
      have e15 : a8.eval (.tmp 15) = .int .i64 a := by
        have := hact.t.2.2 15 (by decide)
        rw [tget_puts _ (by decide) (by decide), tget_puts _ (by decide) (by decide)] at this
        simp only [reduceIte, Nat.reduceEqDiff] at this
        exact this
      have e16 : a8.eval (.tmp 16) = .int .i64 b := by
        have := hact.t.2.2 16 (by decide)
        rw [tget_puts _ (by decide) (by decide)] at this
        simp only [reduceIte] at this
        exact this
      refine step_call hact (g := none) (by rw [hoNg]; rfl) rfl hoN hoNc (args := #[.int .i64 a, .int .i64 b]) (by rw [hoNa]; simp [e15, e16]) (fun w => run_callFunc hfN hnN hbN) (hN φ1 w1 hS) ?_
      rintro e w2 ⟨un, rfl, hvn, hb2⟩
      refine ⟨un, rfl, ?_⟩
      have hH2 := hS.rel.grown hb2
      have hB2 := hS.below.trans (hb2.mono hS.rel.base)
      have hact2 := hact.put (o := oN) (d := some (Pos.ofNat 17)) (by rw [hoNd]; rfl) hvn
      generalize a8.put oN.dst un = a9 at hact2 ⊢
      refine step_q (.str (nameNum a b)) hT hH2 hact2 c42 rfl (qq_move (by simp [AOpnd.ev, tget_puts])) fun a10 hact => ?_
      simp only [wpListIn, Exit.then]
      refine wpIn_seq (wpIn_region_list ?_)
      show wpListIn _ _ _ #[u0, u1, u2, u3, u4, oM, u6, u7, u8] _ [u0, u1, u2, u3, u4, oM, u6, u7, u8] a10 w2
      refine step_q (.bool true) hT hH2 hact c50 rfl (qq_move (by simp [AOpnd.ev, tget_puts, h5])) fun a11 hact => ?_
      refine step_q (.bool true) hT hH2 hact c51 rfl (qq_move (by simp [AOpnd.ev, tget_puts])) fun a12 hact => ?_
      have w19 : ∀ t : PT AVal, PT.get (Pos.ofNat 19) t = some (.bool true) → wantedA t (some (Pos.ofNat 19, true)) = some true := by
        intro t ht
        simp [wantedA, ht]
      refine step_q (.str (nameNum a b)) hT hH2 hact c52 (w19 _ (by simp [pget_puts])) (qq_move (by simp [AOpnd.ev, tget_puts])) fun a13 hact => ?_
      refine step_q (.int .i64 a) hT hH2 hact c53 (w19 _ (by simp [pget_puts])) (qq_move (by simp [AOpnd.ev, tget_puts, h0])) fun a14 hact => ?_
      refine step_q (.int .i64 b) hT hH2 hact c54 (w19 _ (by simp [pget_puts])) (qq_move (by simp [AOpnd.ev, tget_puts, h1])) fun a15 hact => ?_
      have e21 : a15.eval (.tmp 21) = .int .i64 a := by
        have := hact.t.2.2 21 (by decide)
        rw [tget_puts _ (by decide) (by decide), tget_puts _ (by decide) (by decide)] at this
        simp only [reduceIte, Nat.reduceEqDiff] at this
        exact this
      have e22 : a15.eval (.tmp 22) = .int .i64 b := by
        have := hact.t.2.2 22 (by decide)
        rw [tget_puts _ (by decide) (by decide)] at this
        simp only [reduceIte] at this
        exact this
      have hS2 : Sim T w.heap.size φ H w φ1 H1 w2 := ⟨hS.ext, hH2, hB2⟩
      refine step_call hact hoMg (w19 _ (by simp [pget_puts])) hoM hoMc (args := #[.int .i64 a, .int .i64 b]) (by rw [hoMa]; simp [e21, e22]) (fun w => run_callFunc hfM hnM hbM) (hM φ1 w2 hS2) ?_
      rintro e w3 ⟨um, rfl, hvm, hb3⟩
      refine ⟨um, rfl, ?_⟩
      have hH3 := hH2.grown hb3
      have hB3 := hB2.trans (hb3.mono hH2.base)
      have hact2 := hact.put (o := oM) (d := some (Pos.ofNat 23)) (by rw [hoMd]; rfl) hvm
      generalize a15.put oM.dst um = a16 at hact2 ⊢
      refine step_q (.bool true) hT hH3 hact2 c56 (w19 _ (by simp [pget_puts])) (qq_bin (vx := .str (nameNum a b)) (vy := .str (nameNum a b)) (by simp [AOpnd.ev, tget_puts]) (by simp [AOpnd.ev, tget_puts]) (by simp [binOpA, strBin, strEq_refl])) fun a17 hact => ?_
      refine step_q (.bool true) hT hH3 hact c57 rfl (by simp [quiet, AOpnd.ev, tget_puts]) fun a18 hact => ?_
      refine step_q (.bool true) hT hH3 hact c58 rfl (qq_move (by simp [AOpnd.ev, tget_puts])) fun a19 hact => ?_
      simp only [wpListIn, Exit.then]
      refine wpIn_ret ⟨_, ?_, rfl, φ1, ⟨hS.ext, hH3, hB3⟩, hact⟩
      simp [resultA, tget_puts]
  cases hlt : ltI a 0 with
  | true =>
    rw [hlt] at hact
    have w10 : ∀ t : PT AVal, PT.get (Pos.ofNat 10) t = some (.bool true) → wantedA t (some (Pos.ofNat 10, false)) = some false := by
      intro t ht
      simp [wantedA, ht]
    refine step_skip hact c23 (w10 _ (by simp [pget_puts])) fun a7 hact => ?_
    refine step_skip hact c24 (w10 _ (by simp [pget_puts])) fun a8 hact => ?_
    refine step_q (.bool true) hT hS.rel hact c25 rfl (by simp [quiet, AOpnd.ev, tget_puts]) fun a9 hact => ?_
    simp only [wpListIn]
    exact both _ a9 true hact (by simp [tget_puts]) (by simp [tget_puts]) (by simp [tget_puts]) (by simp [tget_puts])
  | false =>
    rw [hlt] at hact
    have w10 : ∀ t : PT AVal, PT.get (Pos.ofNat 10) t = some (.bool false) → wantedA t (some (Pos.ofNat 10, false)) = some true := by
      intro t ht
      simp [wantedA, ht]
    refine step_q (.int .i64 b) hT hS.rel hact c23 (w10 _ (by simp [pget_puts])) (qq_move (by simp [AOpnd.ev, tget_puts])) fun a7 hact => ?_
    refine step_q (.bool (ltI b 0)) hT hS.rel hact c24 (w10 _ (by simp [pget_puts])) (qq_bin (vx := .int .i64 b) (vy := .int .i64 0) (by simp [AOpnd.ev, tget_puts]) rfl (by simp [binOpA, kbeq, intBin])) fun a8 hact => ?_
    refine step_q (.bool (ltI b 0)) hT hS.rel hact c25 rfl (by simp [quiet, AOpnd.ev, tget_puts]) fun a9 hact => ?_
    simp only [wpListIn]
    exact both _ a9 (ltI b 0) hact (by simp [tget_puts]) (by simp [tget_puts]) (by simp [tget_puts]) (by simp [tget_puts])
end
end Go.Am
end
