/- Part of the proof: AmNetsLift. -/
import Derived.Test.YthfacindpgoedaaGreatDoorNetsStart
set_option linter.unusedSimpArgs false
set_option linter.unusedVariables false
section
namespace Go.Proofs.YthfacindpgoedaaGreatDoor
open Go.ChangeShapes Go.WideShapes Go.ChangeAt Go.RowKit Go.Am

theorem cells_slice (A : Option Addr) (len cap : Nat) : (Value.slice A len cap).cells.toList = [.slice A len cap] := by simp [Value.cells]
theorem absA_slice (n : Nat) (A : Option Addr) (len cap : Nat) : absA n (.slice A len cap) = absV n (.slice A len cap) := rfl
/-- The law, of a slice of changes as the row reads it. -/
theorem walk {H : Type} {enc : TypeId × Value → H} {d0 d2 : DataW H} {p0 p2 : List MemPlace} {A : Option Addr} {l c : Nat} {cs : Array Value} (i : Int) (W : World) (hL : laidMetH Tryz.prog laidL W) (h0 : DataW.Trod enc Tryz.prog W 0 (fun _ => true) true 22 (.slice A l c) d0 p0) (h2 : DataW.Trod enc Tryz.prog W 0 (fun _ => true) true 24 (.agg cs) d2 p2) :
    Calls Tryz.prog 3 #[.slice A l c, .int .i64 i, .agg cs] W fun e W' => e = .returned (.bool true) ∧ Below W.heap.size W W' := by
  obtain ⟨_, hng, hz⟩ := start hL
  obtain ⟨f0, h0⟩ := h0
  obtain ⟨f2, h2⟩ := h2
  rw [cells_slice] at h0
  obtain ⟨ts, r0⟩ := reads_trips Tryz.underlying22 Tryz.underlying24 cells24 rfl rfl rfl Tryz.underlying3 Tryz.underlying3 Tryz.underlying4 cells3 cells3 cells4 hz h0
  obtain ⟨u, v, g, hcs⟩ := change_cells Tryz.underlying24 cells24 rfl rfl rfl Tryz.underlying3 Tryz.underlying3 Tryz.underlying4 cells3 cells3 cells4 h2
  have hcs : cs.toList = [.int .i64 u, .int .i64 v, .bool g] := hcs
  have ha : absA W.heap.size (.agg cs) = .agg (cell3 (u, v, g)) := by
    show AVal.agg (cs.toList.map (absV W.heap.size)) = _
    rw [hcs]
    rfl
  obtain ⟨H', hc⟩ := law_ok (codeOk W.heap.size) (lawEnv7 _) (N := (absH W).nx.toNat) (H := absH W) i (u, v, g) r0 (Nat.le_refl _) (firstS hL)
  exact law_calls (E := lawEnv W.heap.size) theTys_ok (lawEnv_ok _) mixed_ok hng (by show (10 : Nat) < _; decide) (lawEnv_sums _ _ rfl) (by
    simp only [List.map_cons, List.map_nil, absA_slice, ha]
    exact hc)

set_option maxRecDepth 100000 in
theorem lifted (os : Os) (started : os.Started) (H : Type) (enc : TypeId × Value → H) :
    ReturnsInHanded {} Tryz.checked os 3 .any (fun w args => (Rows.changeNetsSpec.pre enc Tryz.prog Tryz.f3 Rows.changeNetsRow.domain false w args ∧ laidMetH Tryz.prog laidL w) ∧ sizedMet enc Tryz.prog Tryz.f3 (OpenSpec.ofChange Rows.changeNetsSpec) false w args)
      (Rows.changeNetsSpec.post enc Tryz.prog Tryz.f3 false true false false) := by
  refine returnsInHanded_of_change_and (C := Tryz.checked) (X := fun w _ => laidMetH Tryz.prog laidL w) (fun _ _ _ hh h => h.of_heap hh) own started (by kernel_rfl) Tryz.func3
    (ChangeSpec.witness_shaped (enc := enc) (C := Tryz.checked) (os := os) (X := fun w _ => laidMetH Tryz.prog laidL w) false (World.laidAll Tryz.prog os laidL) #[.slice none 0 0, .int .i64 0, .agg #[.int .i64 0, .int .i64 0, .bool false]] 8 (World.laidAll_os _ _ _)
      (World.shaped_of_ZipB (by kernel_rfl) (by kernel_rfl)) (by kernel_rfl) (by kernel_rfl) (by kernel_rfl)
      (by rw [MakeChecks.laidMetH_plain _ _ _ (by kernel_rfl)]; exact laidMet_laidAll _ (by kernel_rfl) (by kernel_rfl))) ?_
  intro W base args ds gs before hval0 hW hc _ hL _
  have hval : ∀ (j : Nat) t v, Tryz.f3.params[j]? = some t → args[j]? = some v → Value.okWide Tryz.prog W .any base t v := hval0
  have hW' := hW
  obtain ⟨p, q, hA0, hV, rfl, _, _⟩ := hW
  have hA : DataW.TrodAll enc Tryz.prog W 0 (fun _ => true) true Tryz.f3.params.toList args.toList ds p := hA0
  rw [Tryz.params3] at hA hval
  obtain ⟨v0, vs0, d0, ds0, p0, q0, hargs, rfl, rfl, h0, r0⟩ := trodAll_cons hA
  obtain ⟨v1, vs1, d1, ds1, p1, q1, rfl, rfl, rfl, h1, r1⟩ := trodAll_cons r0
  obtain ⟨v2, vs2, d2, ds2, p2, q2, rfl, rfl, rfl, h2, r2⟩ := trodAll_cons r1
  obtain ⟨rfl, rfl, rfl⟩ := trodAll_nil r2
  obtain rfl : args = #[v0, v1, v2] := by cases args; simp_all
  obtain ⟨rfl, rfl⟩ := trodVars_none hV
  obtain ⟨A, len, cap, rfl⟩ := okWide_slice Tryz.underlying22 (hval 0 22 v0 rfl rfl)
  obtain ⟨a1, rfl, rfl, rfl, w1⟩ := open_int Tryz.underlying3 (hval 1 3 v1 rfl rfl) h1
  obtain ⟨cs, rfl, _⟩ := okWide_struct Tryz.underlying24 (hval 2 24 v2 rfl rfl)
  clear hA0 hval0
  simp only [List.append_nil, List.nil_append] at hW'
  have hlt : ∀ x ∈ p0 ++ p2, x.block < W.heap.size := fun x hx => by simpa using hW'.lt x (by simpa using hx)
  refine (walk a1 W hL h0 h2).mono fun e W' ⟨he, hb⟩ => ?_
  subst he
  have hstay : ∀ {t : TypeId} {v : Value} {d : DataW H} {p : List MemPlace} (sp : Nat → Bool), DataW.Trod enc Tryz.prog W 0 (fun _ => true) true t v d p → decide (t < Tryz.prog.types.size) = true → Tryz.prog.readableRec t = true → (∀ x ∈ p, x.block < W.heap.size) → (∀ x ∈ p, sp x.block = true) → DataW.Trod enc Tryz.prog W' 0 sp true t v d p := fun sp h ht hr hl hsp =>
    WideElems.Trod_stays laidOut hr (of_decide_eq_true ht) h (fun x hx => hb.same (hl x hx)) hsp
  exact ⟨_, rfl, post_of_below (pv := []) hW' (fun _ _ _ => trodAll_mk1 (shut_bool Tryz.underlying4 _)) (fun sp hsp => (trodAll_cons_mk (hstay sp h0 (by kernel_rfl) (by kernel_rfl) (fun x hx => hlt x (by simp [hx])) (fun x hx => hsp x (by simp [hx]))) (trodAll_cons_mk (shut_int Tryz.underlying3 w1) (trodAll_cons_mk (hstay sp h2 (by kernel_rfl) (by kernel_rfl) (fun x hx => hlt x (by simp [hx])) (fun x hx => hsp x (by simp [hx]))) trodAll_mk0)))) (fun _ _ => rfl) (by simp)
    hb (ok_one (by kernel_rfl) rfl (okWide_bool_mk Tryz.underlying4 _))⟩
end Go.Proofs.YthfacindpgoedaaGreatDoor
end
