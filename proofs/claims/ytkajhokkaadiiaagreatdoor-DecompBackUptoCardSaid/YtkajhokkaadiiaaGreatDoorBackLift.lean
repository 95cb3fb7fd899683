/- Part of the proof: AmBackLift. -/
import Derived.Test.YtkajhokkaadiiaaGreatDoorBackStart
set_option linter.unusedSimpArgs false
set_option linter.unusedVariables false
section
namespace Go.Proofs.YtkajhokkaadiiaaGreatDoor
open Go.ChangeShapes Go.WideShapes Go.ChangeAt Go.RowKit Go.Am

theorem cells_slice (A : Option Addr) (len cap : Nat) : (Value.slice A len cap).cells.toList = [.slice A len cap] := by simp [Value.cells]
theorem absA_slice (n : Nat) (A : Option Addr) (len cap : Nat) : absA n (.slice A len cap) = absV n (.slice A len cap) := rfl
/-- The law, of slices as the row reads them. -/
theorem walk {H : Type} {enc : TypeId × Value → H} {d1 d3 d4 : DataW H} {p1 p3 p4 : List MemPlace} {A1 A3 A4 : Option Addr} {l1 c1 l3 c3 l4 c4 : Nat} (gen n : Int) (W : World) (hL : laidMetH Tryz.prog laidL W) (h1 : DataW.Trod enc Tryz.prog W 0 (fun _ => true) true 22 (.slice A1 l1 c1) d1 p1) (h3 : DataW.Trod enc Tryz.prog W 0 (fun _ => true) true 26 (.slice A3 l3 c3) d3 p3) (h4 : DataW.Trod enc Tryz.prog W 0 (fun _ => true) true 27 (.slice A4 l4 c4) d4 p4) (hb : Rows.uptoBulk d4 ≤ 1048576) :
    Calls Tryz.prog 5 #[.int .i64 gen, .slice A1 l1 c1, .int .i64 n, .slice A3 l3 c3, .slice A4 l4 c4] W fun e W' => e = .returned (.bool true) ∧ Below W.heap.size W W' := by
  obtain ⟨_, hng, h0⟩ := start hL
  obtain ⟨f1, h1⟩ := h1
  obtain ⟨f3, h3⟩ := h3
  obtain ⟨f4, h4⟩ := h4
  rw [cells_slice] at h1 h3 h4
  obtain ⟨zs, r1, _, _⟩ := reads_ints Tryz.underlying22 Tryz.underlying3 cells3 h0 h1
  obtain ⟨us, r3, hu, _⟩ := reads_bytes Tryz.underlying26 Tryz.underlying5 cells5 h0 h3
  obtain ⟨uss, r4, huu, hd⟩ := lists_bytes Tryz.underlying27 Tryz.underlying26 Tryz.underlying5 cells26 cells5 h0 h4
  have ht : (uss.flatMap id).length ≤ 16777216 := by
    rcases hd with ⟨_, rfl⟩ | ⟨ys, sp, e, hl, hh⟩
    · simp
    · have e : d4 = .slice ys sp := e
      rw [e] at hb
      have := total_le uss ys hl hh
      simp only [Rows.uptoBulk] at hb
      omega
  obtain ⟨H', hc⟩ := back_ok (codeOk W.heap.size) (N := (absH W).nx.toNat) (H := absH W) gen n (firstS hL) r1 r3 r4 (Nat.le_refl _) hu huu ht
  exact law_calls (E := lawEnv W.heap.size) theTys_ok (lawEnv_ok _) mixed_ok hng (by show (10 : Nat) < _; decide) (lawEnv_sums _ _ rfl) (by
    simp only [List.map_cons, List.map_nil, absA_slice]
    exact hc)

set_option maxRecDepth 100000 in
theorem contract (H : Type) (enc : TypeId × Value → H) (W : World) (base : Nat) (args : Array Value) (ds gs : List (DataW H)) (before : List MemPlace)
    (hval : ∀ (j : Nat) t v, Tryz.f5.params[j]? = some t → args[j]? = some v → Value.okWide Tryz.prog W .any base t v)
    (hW : DataW.Whole enc Tryz.prog Tryz.f5.params.toList Rows.decompBackSpec.vars false W args.toList ds gs before) (hk : Rows.uptoSmall H (ds ++ gs) = true) (hL : laidMetH Tryz.prog laidL W) :
    Calls Tryz.prog 5 args W fun e W' => ∃ v, e = .returned v ∧ Rows.decompBackSpec.post enc Tryz.prog Tryz.f5 false true false false W args v W' := by
  obtain ⟨Bd, hBd, hs⟩ : ∃ B, B = 1048576 ∧ Rows.uptoBulkAll (ds ++ gs) ≤ B := ⟨_, rfl, of_decide_eq_true hk⟩
  clear hk
  have hW' := hW
  obtain ⟨p, q, hA0, hV, rfl, _, _⟩ := hW
  have hA : DataW.TrodAll enc Tryz.prog W 0 (fun _ => true) true Tryz.f5.params.toList args.toList ds p := hA0
  rw [Tryz.params5] at hA hval
  obtain ⟨v0, vs0, d0, ds0, p0, q0, hargs, rfl, rfl, h0, r0⟩ := trodAll_cons hA
  obtain ⟨v1, vs1, d1, ds1, p1, q1, rfl, rfl, rfl, h1, r1⟩ := trodAll_cons r0
  obtain ⟨v2, vs2, d2, ds2, p2, q2, rfl, rfl, rfl, h2, r2⟩ := trodAll_cons r1
  obtain ⟨v3, vs3, d3, ds3, p3, q3, rfl, rfl, rfl, h3, r3⟩ := trodAll_cons r2
  obtain ⟨v4, vs4, d4, ds4, p4, q4, rfl, rfl, rfl, h4, r4⟩ := trodAll_cons r3
  obtain ⟨rfl, rfl, rfl⟩ := trodAll_nil r4
  obtain rfl : args = #[v0, v1, v2, v3, v4] := by cases args; simp_all
  obtain ⟨rfl, rfl⟩ := trodVars_none hV
  obtain ⟨a0, rfl, rfl, rfl, w0⟩ := open_int Tryz.underlying3 (hval 0 3 v0 rfl rfl) h0
  obtain ⟨A1, l1, c1, rfl⟩ := okWide_slice Tryz.underlying22 (hval 1 22 v1 rfl rfl)
  obtain ⟨a2, rfl, rfl, rfl, w2⟩ := open_int Tryz.underlying3 (hval 2 3 v2 rfl rfl) h2
  obtain ⟨A3, l3, c3, rfl⟩ := okWide_slice Tryz.underlying26 (hval 3 26 v3 rfl rfl)
  obtain ⟨A4, l4, c4, rfl⟩ := okWide_slice Tryz.underlying27 (hval 4 27 v4 rfl rfl)
  clear hA0 hval
  have hb : Rows.uptoBulk d4 ≤ 1048576 := by
    have h5 := bulk_at (l := [.lit (.int .i64 a0), d1, .lit (.int .i64 a2), d3, d4] ++ []) (d := d4) (by simp)
    rw [hBd] at hs
    exact Nat.le_trans h5 hs
  simp only [List.append_nil, List.nil_append] at hW'
  have hlt : ∀ x ∈ p1 ++ (p3 ++ p4), x.block < W.heap.size := fun x hx => by simpa using hW'.lt x (by simpa using hx)
  refine (walk a0 a2 W hL h1 h3 h4 hb).mono fun e W' ⟨he, hbl⟩ => ?_
  subst he
  have hstay : ∀ {t : TypeId} {v : Value} {d : DataW H} {p : List MemPlace} (sp : Nat → Bool), DataW.Trod enc Tryz.prog W 0 (fun _ => true) true t v d p → decide (t < Tryz.prog.types.size) = true → Tryz.prog.readableRec t = true → (∀ x ∈ p, x.block < W.heap.size) → (∀ x ∈ p, sp x.block = true) → DataW.Trod enc Tryz.prog W' 0 sp true t v d p := fun sp h ht hr hl hsp =>
    WideElems.Trod_stays laidOut hr (of_decide_eq_true ht) h (fun x hx => hbl.same (hl x hx)) hsp
  exact ⟨_, rfl, post_of_below (pv := []) hW' (fun _ _ _ => trodAll_mk1 (shut_bool Tryz.underlying4 _)) (fun sp hsp => (trodAll_cons_mk (shut_int Tryz.underlying3 w0) (trodAll_cons_mk (hstay sp h1 (by kernel_rfl) (by kernel_rfl) (fun x hx => hlt x (by simp [hx])) (fun x hx => hsp x (by simp [hx]))) (trodAll_cons_mk (shut_int Tryz.underlying3 w2) (trodAll_cons_mk (hstay sp h3 (by kernel_rfl) (by kernel_rfl) (fun x hx => hlt x (by simp [hx])) (fun x hx => hsp x (by simp [hx]))) (trodAll_cons_mk (hstay sp h4 (by kernel_rfl) (by kernel_rfl) (fun x hx => hlt x (by simp [hx])) (fun x hx => hsp x (by simp [hx]))) trodAll_mk0)))))) (fun _ _ => rfl) (by simp)
    hbl (ok_one (by kernel_rfl) rfl (okWide_bool_mk Tryz.underlying4 _))⟩
end Go.Proofs.YtkajhokkaadiiaaGreatDoor
end
