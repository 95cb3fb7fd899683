/- Part of the proof: AmDecLift. -/
import Derived.Test.YtkajhokkaadiiaaGreatDoorDecStart
set_option linter.unusedSimpArgs false
set_option linter.unusedVariables false
section
namespace Go.Proofs.YtkajhokkaadiiaaGreatDoor
open Go.ChangeShapes Go.WideShapes Go.ChangeAt Go.RowKit Go.Am

theorem cells_slice (A : Option Addr) (len cap : Nat) : (Value.slice A len cap).cells.toList = [.slice A len cap] := by simp [Value.cells]
theorem absA_slice (n : Nat) (A : Option Addr) (len cap : Nat) : absA n (.slice A len cap) = absV n (.slice A len cap) := rfl
/-- The law, of slices as the row reads them. -/
theorem walk {H : Type} {enc : TypeId × Value → H} {d3 d4 : DataW H} {p3 p4 : List MemPlace} {A3 A4 : Option Addr} {l3 c3 l4 c4 : Nat} (gen n at' xz : Int) (wx : (Lit.int .u8 xz).wf = true) (W : World) (hL : laidMetH Tryz.prog laidL W) (h3 : DataW.Trod enc Tryz.prog W 0 (fun _ => true) true 26 (.slice A3 l3 c3) d3 p3) (h4 : DataW.Trod enc Tryz.prog W 0 (fun _ => true) true 27 (.slice A4 l4 c4) d4 p4) (hb3 : Rows.uptoBulk d3 ≤ 1048576) (hb : Rows.uptoBulk d4 ≤ 1048576) :
    Calls Tryz.prog 4 #[.int .i64 gen, .int .i64 n, .slice A3 l3 c3, .slice A4 l4 c4, .int .i64 at', .int .u8 xz] W fun e W' => e = .returned (.bool true) ∧ Below W.heap.size W W' := by
  obtain ⟨_, hng, h0⟩ := start hL
  obtain ⟨f3, h3⟩ := h3
  obtain ⟨f4, h4⟩ := h4
  rw [cells_slice] at h3 h4
  obtain ⟨us, r3, hu, hd3⟩ := reads_bytes Tryz.underlying26 Tryz.underlying5 cells5 h0 h3
  obtain ⟨uss, r4, huu, hd⟩ := lists_bytes Tryz.underlying27 Tryz.underlying26 Tryz.underlying5 cells26 cells5 h0 h4
  have hul : us.length ≤ 16777216 := by
    rcases hd3 with ⟨_, rfl⟩ | ⟨zs, sp, e, hl⟩
    · simp
    · have e : d3 = .slice (lits .u8 zs) sp := e
      rw [e] at hb3
      simp only [Rows.uptoBulk, lits_bulk] at hb3
      omega
  have ht : (uss.flatMap id).length ≤ 16777216 ∧ uss.length ≤ 1073741824 := by
    rcases hd with ⟨_, rfl⟩ | ⟨ys, sp, e, hl, hh⟩
    · simp
    · have e : d4 = .slice ys sp := e
      rw [e] at hb
      have := total_le uss ys hl hh
      have := length_le ys
      simp only [Rows.uptoBulk] at hb
      omega
  have hmin : IntKind.u8.min = 0 := by decide
  have hmax : IntKind.u8.max = 255 := by decide
  simp only [Lit.wf, hmin, hmax, Bool.and_eq_true, decide_eq_true_eq] at wx
  obtain ⟨xn, hxn⟩ : ∃ xn : Nat, xz = .ofNat xn := ⟨xz.toNat, (Int.toNat_of_nonneg wx.1).symm⟩
  subst hxn
  obtain ⟨H', hc⟩ := decodes_ok (codeOk W.heap.size) (fun a b c d e => stay_call a b c d e) (N := (absH W).nx.toNat) (H := absH W) gen n at' xn (firstS hL) r3 r4 (Nat.le_refl _) hu huu hul ht.2 ht.1
  exact law_calls (E := lawEnv W.heap.size) theTys_ok (lawEnv_ok _) mixed_ok hng (by show (10 : Nat) < _; decide) (lawEnv_sums _ _ rfl) (by
    simp only [List.map_cons, List.map_nil, absA_slice]
    exact hc)

set_option maxRecDepth 100000 in
theorem contract (H : Type) (enc : TypeId × Value → H) (W : World) (base : Nat) (args : Array Value) (ds gs : List (DataW H)) (before : List MemPlace)
    (hval : ∀ (j : Nat) t v, Tryz.f4.params[j]? = some t → args[j]? = some v → Value.okWide Tryz.prog W .any base t v)
    (hW : DataW.Whole enc Tryz.prog Tryz.f4.params.toList Rows.decompDecodesSpec.vars false W args.toList ds gs before) (hk : Rows.uptoSmall H (ds ++ gs) = true) (hL : laidMetH Tryz.prog laidL W) :
    Calls Tryz.prog 4 args W fun e W' => ∃ v, e = .returned v ∧ Rows.decompDecodesSpec.post enc Tryz.prog Tryz.f4 false true false false W args v W' := by
  obtain ⟨Bd, hBd, hs⟩ : ∃ B, B = 1048576 ∧ Rows.uptoBulkAll (ds ++ gs) ≤ B := ⟨_, rfl, of_decide_eq_true hk⟩
  clear hk
  have hW' := hW
  obtain ⟨p, q, hA0, hV, rfl, _, _⟩ := hW
  have hA : DataW.TrodAll enc Tryz.prog W 0 (fun _ => true) true Tryz.f4.params.toList args.toList ds p := hA0
  rw [Tryz.params4] at hA hval
  obtain ⟨v0, vs0, d0, ds0, p0, q0, hargs, rfl, rfl, h0, r0⟩ := trodAll_cons hA
  obtain ⟨v1, vs1, d1, ds1, p1, q1, rfl, rfl, rfl, h1, r1⟩ := trodAll_cons r0
  obtain ⟨v2, vs2, d2, ds2, p2, q2, rfl, rfl, rfl, h2, r2⟩ := trodAll_cons r1
  obtain ⟨v3, vs3, d3, ds3, p3, q3, rfl, rfl, rfl, h3, r3⟩ := trodAll_cons r2
  obtain ⟨v4, vs4, d4, ds4, p4, q4, rfl, rfl, rfl, h4, r4⟩ := trodAll_cons r3
  obtain ⟨v5, vs5, d5, ds5, p5, q5, rfl, rfl, rfl, h5, r5⟩ := trodAll_cons r4
  obtain ⟨rfl, rfl, rfl⟩ := trodAll_nil r5
  obtain rfl : args = #[v0, v1, v2, v3, v4, v5] := by cases args; simp_all
  obtain ⟨rfl, rfl⟩ := trodVars_none hV
  obtain ⟨a0, rfl, rfl, rfl, w0⟩ := open_int Tryz.underlying3 (hval 0 3 v0 rfl rfl) h0
  obtain ⟨a1, rfl, rfl, rfl, w1⟩ := open_int Tryz.underlying3 (hval 1 3 v1 rfl rfl) h1
  obtain ⟨A2, l2, c2, rfl⟩ := okWide_slice Tryz.underlying26 (hval 2 26 v2 rfl rfl)
  obtain ⟨A3, l3, c3, rfl⟩ := okWide_slice Tryz.underlying27 (hval 3 27 v3 rfl rfl)
  obtain ⟨a4, rfl, rfl, rfl, w4⟩ := open_int Tryz.underlying3 (hval 4 3 v4 rfl rfl) h4
  obtain ⟨a5, rfl, rfl, rfl, w5⟩ := open_int Tryz.underlying5 (hval 5 5 v5 rfl rfl) h5
  clear hA0 hval
  rw [hBd] at hs
  have hb2 : Rows.uptoBulk d2 ≤ 1048576 := Nat.le_trans (bulk_at (l := [.lit (.int .i64 a0), .lit (.int .i64 a1), d2, d3, .lit (.int .i64 a4), .lit (.int .u8 a5)] ++ []) (by simp)) hs
  have hb3 : Rows.uptoBulk d3 ≤ 1048576 := Nat.le_trans (bulk_at (l := [.lit (.int .i64 a0), .lit (.int .i64 a1), d2, d3, .lit (.int .i64 a4), .lit (.int .u8 a5)] ++ []) (by simp)) hs
  simp only [List.append_nil, List.nil_append] at hW'
  have hlt : ∀ x ∈ p2 ++ p3, x.block < W.heap.size := fun x hx => by simpa using hW'.lt x (by simpa using hx)
  refine (walk a0 a1 a4 a5 w5 W hL h2 h3 hb2 hb3).mono fun e W' ⟨he, hbl⟩ => ?_
  subst he
  have hstay : ∀ {t : TypeId} {v : Value} {d : DataW H} {p : List MemPlace} (sp : Nat → Bool), DataW.Trod enc Tryz.prog W 0 (fun _ => true) true t v d p → decide (t < Tryz.prog.types.size) = true → Tryz.prog.readableRec t = true → (∀ x ∈ p, x.block < W.heap.size) → (∀ x ∈ p, sp x.block = true) → DataW.Trod enc Tryz.prog W' 0 sp true t v d p := fun sp h ht hr hl hsp =>
    WideElems.Trod_stays laidOut hr (of_decide_eq_true ht) h (fun x hx => hbl.same (hl x hx)) hsp
  exact ⟨_, rfl, post_of_below (pv := []) hW' (fun _ _ _ => trodAll_mk1 (shut_bool Tryz.underlying4 _)) (fun sp hsp => (trodAll_cons_mk (shut_int Tryz.underlying3 w0) (trodAll_cons_mk (shut_int Tryz.underlying3 w1) (trodAll_cons_mk (hstay sp h2 (by kernel_rfl) (by kernel_rfl) (fun x hx => hlt x (by simp [hx])) (fun x hx => hsp x (by simp [hx]))) (trodAll_cons_mk (hstay sp h3 (by kernel_rfl) (by kernel_rfl) (fun x hx => hlt x (by simp [hx])) (fun x hx => hsp x (by simp [hx]))) (trodAll_cons_mk (shut_int Tryz.underlying3 w4) (trodAll_cons_mk (shut_int Tryz.underlying5 w5) trodAll_mk0))))))) (fun _ _ => rfl) (by simp)
    hbl (ok_one (by kernel_rfl) rfl (okWide_bool_mk Tryz.underlying4 _))⟩
end Go.Proofs.YtkajhokkaadiiaaGreatDoor
end
