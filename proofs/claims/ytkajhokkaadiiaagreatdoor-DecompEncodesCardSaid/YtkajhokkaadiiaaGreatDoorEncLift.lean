/- Part of the proof: AmEncLift. -/
import Derived.Test.YtkajhokkaadiiaaGreatDoorEncLaw
section
namespace Go.Proofs.YtkajhokkaadiiaaGreatDoor
open Go.ChangeShapes Go.WideShapes Go.ChangeAt Go.RowKit Go.Am

theorem cells3 : Tryz.prog.cellsOf 3 = 1 := by kernel_rfl
theorem laidOut : laidOutB Tryz.prog = true := by kernel_rfl

/-- The law, of a slice as the row reads it. -/
theorem walk_slice {H : Type} {enc : TypeId × Value → H} {d1 : DataW H} {p1 : List MemPlace} {A : Option Addr} {len cap : Nat} (gen at' to' : Int) (wa : (Lit.int .i64 gen).wf = true) (W : World) (hL : laidMetH Tryz.prog laidL W) (h1 : DataW.Trod enc Tryz.prog W 0 (fun _ => true) true 22 (.slice A len cap) d1 p1) :
    Calls Tryz.prog 3 #[.int .i64 gen, .slice A len cap, .int .i64 at', .int .i64 to'] W fun e W' => e = .returned (.bool true) ∧ Below W.heap.size W W' := by
  obtain ⟨fuel, hf⟩ := h1
  have hng : theTys.ng ≤ W.heap.size := ten hL
  have h31 : theTys.ng < 2147483647 := by show (10 : Nat) < _; decide
  rcases open_ints Tryz.underlying22 Tryz.underlying3 cells3 hf with ⟨hcs, hx⟩ | ⟨a, len', cap', zs, hcs, _, hlc, hm, hz, hx, hcell, hwz⟩
  · simp [Value.cells] at hcs
    obtain ⟨rfl, rfl, rfl⟩ := hcs
    have hH : HRel theTys W.heap.size (globEmb W 10) ⟨.l, Pos.ofNat 10⟩ W := HRel.start (T := theTys) (objs := []) hng (by show (10 : Nat) < _; decide) (by intro p hp; cases hp)
    exact walk (xv := .snil) (zs := []) gen at' to' wa W hL hH (.inl ⟨rfl, rfl⟩) ⟨_, _, rfl, rfl, _, _, rfl, rfl, _, _, rfl, rfl, _, _, rfl, rfl, rfl⟩
  · simp [Value.cells] at hcs
    obtain ⟨rfl, rfl, rfl⟩ := hcs
    simp only [if_true] at hz
    have hg : Tryz.prog.globalNamed "internal/strconv.uint64pow10" = some 0 := by kernel_rfl
    have hrd : ∀ (l : List AVal), hloadN ⟨PT.set (Pos.ofNat theTys.ng) (some (.cells l false true)) .l, (Pos.ofNat theTys.ng).succ⟩ (Pos.ofNat theTys.ng) 0 l.length = some l := by
      intro l
      unfold hloadN
      rw [PT.get_set_same]
      simp only
      rw [lsub_of (by omega)]
      simp
    have hlt : (Pos.ofNat theTys.ng).toNat < (Pos.ofNat theTys.ng).succ.toNat := by rw [Pos.toNat_succ]; omega
    by_cases h0 : cap = 0
    · subst h0
      have hl0 : len = 0 := by omega
      subst hl0
      obtain ⟨e, fz, hc⟩ := block_of_var hg (start hL).2
      obtain ⟨φ, hφ, hH⟩ := HRel.arg (T := theTys) (l := []) (s := 0) hng h31 hc (by simp) (by simp)
      exact walk (xv := .sl (Pos.ofNat theTys.ng) 0 0 0 0) (zs := []) gen at' to' wa W hL hH (.inr ⟨_, 0, 0, 0, rfl, hrd [], hlt⟩) ⟨_, _, rfl, rfl, _, _, rfl, ⟨_, a, 0, hφ, rfl, Nat.le_refl _, Nat.le_refl _, .inl ⟨rfl, rfl, .inr rfl⟩⟩, _, _, rfl, rfl, _, _, rfl, rfl, rfl⟩
    · obtain ⟨b, off, spot⟩ := a
      have hspot : spot = none := by simpa [Addr.add] using World.cell?_spot (hcell 0 (by omega))
      subst hspot
      have cj : ∀ j, j < zs.length → W.cell? ⟨b, off + j, none⟩ = some (.int .i64 (zs.getD j 0)) := fun j hj => by rw [← add_plain]; exact hcell j hj
      obtain ⟨arr, e, fz, hc⟩ : ∃ arr e fz, W.heap[b]? = some (.cells arr e fz) := by
        have := cj 0 (by omega)
        unfold World.cell? at this
        split at this
        · rename_i c e' f' hb; exact ⟨c, e', f', hb⟩
        · cases this
      have ck : ∀ j, j < zs.length → arr[off + j]? = some (.int .i64 (zs.getD j 0)) := by
        intro j hj
        have := cj j hj
        unfold World.cell? at this
        simpa [hc] using this
      have hsz : off + len ≤ arr.size := by
        have := (Array.getElem?_eq_some_iff.1 (ck (zs.length - 1) (by omega))).1
        omega
      have htl : (zcells (zs.take len)).length = len := by rw [zcells_length, List.length_take]; omega
      obtain ⟨φ, hφ, hH⟩ := HRel.arg (T := theTys) (l := zcells (zs.take len)) (s := off) hng h31 hc (by rw [htl]; exact hsz) (by
        intro i v hi
        have hi' : i < len := by
          rcases Nat.lt_or_ge i len with h | h
          · exact h
          · rw [List.getElem?_eq_none (by rw [htl]; exact h)] at hi; cases hi
        refine ⟨_, ck i (by omega), fun φ => ?_⟩
        have : v = .int .i64 (zs.getD i 0) := by
          simp only [zcells, List.getElem?_map, List.getElem?_take, hi', if_true] at hi
          rw [List.getElem?_eq_getElem (by omega)] at hi
          simp only [Option.map_some, Option.some.injEq] at hi
          rw [← hi, List.getD, List.getElem?_eq_getElem (by omega)]
          rfl
        rw [this]
        rfl)
      refine walk (xv := .sl (Pos.ofNat theTys.ng) 0 len cap 0) (zs := zs.take len) gen at' to' wa W hL hH (.inr ⟨_, 0, cap, 0, by rw [htl], hrd _, hlt⟩) ⟨_, _, rfl, rfl, _, _, rfl, ⟨_, ⟨b, off, none⟩, cap, hφ, rfl, hlc, Nat.le_refl _, .inl ⟨rfl, rfl, .inl ?_⟩⟩, _, _, rfl, rfl, _, _, rfl, rfl, rfl⟩
      rfl

set_option maxRecDepth 100000 in
theorem lifted (os : Os) (started : os.Started) (H : Type) (enc : TypeId × Value → H) :
    ReturnsInHanded {} Tryz.checked os 3 .any (fun w args => (Rows.decompEncodesSpec.pre enc Tryz.prog Tryz.f3 Rows.decompEncodesRow.domain false w args ∧ laidMetH Tryz.prog laidL w) ∧ sizedMet enc Tryz.prog Tryz.f3 (OpenSpec.ofChange Rows.decompEncodesSpec) false w args)
      (Rows.decompEncodesSpec.post enc Tryz.prog Tryz.f3 false true false false) := by
  refine returnsInHanded_of_change_and (C := Tryz.checked) (X := fun w _ => laidMetH Tryz.prog laidL w) (fun _ _ _ hh h => h.of_heap hh) own started (by kernel_rfl) Tryz.func3
    (ChangeSpec.witness_shaped (enc := enc) (C := Tryz.checked) (os := os) (X := fun w _ => laidMetH Tryz.prog laidL w) false (World.laidAll Tryz.prog os laidL) #[.int .i64 0, .slice none 0 0, .int .i64 0, .int .i64 0] 8 (World.laidAll_os _ _ _)
      (World.shaped_of_ZipB (by kernel_rfl) (by kernel_rfl)) (by kernel_rfl) (by kernel_rfl) (by kernel_rfl)
      (by rw [MakeChecks.laidMetH_plain _ _ _ (by kernel_rfl)]; exact laidMet_laidAll _ (by kernel_rfl) (by kernel_rfl))) ?_
  intro W base args ds gs before hval0 hW hc _ hL _
  have hval : ∀ (j : Nat) t v, Tryz.f3.params[j]? = some t → args[j]? = some v → Value.okWide Tryz.prog W .any base t v := hval0
  have hW' := hW
  obtain ⟨p, q, hA0, hV, rfl, _, _⟩ := hW
  have hA : DataW.TrodAll enc Tryz.prog W 0 (fun _ => true) true Tryz.f3.params.toList args.toList ds p := hA0
  rw [Tryz.params3] at hA hval
  obtain ⟨v0, vs0, d0, ds0, p0, q0, hargs, rfl, rfl, h0, r0⟩ := trodAll_cons hA
  obtain ⟨v1, vs1, d1, ds1, p1, q1, rfl, rfl, rfl, h1, r1⟩ := trodAll_cons r0
  obtain ⟨v2, vs2, d2, ds2, p2, q2, rfl, rfl, rfl, h2, r2⟩ := trodAll_cons r1
  obtain ⟨v3, vs3, d3, ds3, p3, q3, rfl, rfl, rfl, h3, r3⟩ := trodAll_cons r2
  obtain ⟨rfl, rfl, rfl⟩ := trodAll_nil r3
  obtain rfl : args = #[v0, v1, v2, v3] := by cases args; simp_all
  obtain ⟨rfl, rfl⟩ := trodVars_none hV
  obtain ⟨a0, rfl, rfl, rfl, w0⟩ := open_int Tryz.underlying3 (hval 0 3 v0 rfl rfl) h0
  obtain ⟨A, len, cap, rfl⟩ := okWide_slice Tryz.underlying22 (hval 1 22 v1 rfl rfl)
  obtain ⟨a2, rfl, rfl, rfl, w2⟩ := open_int Tryz.underlying3 (hval 2 3 v2 rfl rfl) h2
  obtain ⟨a3, rfl, rfl, rfl, w3⟩ := open_int Tryz.underlying3 (hval 3 3 v3 rfl rfl) h3
  clear hA0 hval0
  simp only [List.append_nil, List.nil_append] at hW'
  have hlt : ∀ x ∈ p1, x.block < W.heap.size := fun x hx => by simpa using hW'.lt x hx
  refine (walk_slice a0 a2 a3 w0 W hL h1).mono fun e W' ⟨he, hb⟩ => ?_
  subst he
  have hstay : ∀ sp : Nat → Bool, (∀ x ∈ p1, sp x.block = true) → DataW.Trod enc Tryz.prog W' 0 sp true 22 (.slice A len cap) d1 p1 := fun sp hsp =>
    WideElems.Trod_stays laidOut (by kernel_rfl) (of_decide_eq_true (by kernel_rfl)) h1 (fun x hx => hb.same (hlt x hx)) hsp
  exact ⟨_, rfl, post_of_below (pv := []) hW' (fun _ _ _ => trodAll_mk1 (shut_bool Tryz.underlying4 _)) (fun sp hsp => (trodAll_cons_mk (shut_int Tryz.underlying3 w0) (trodAll_cons_mk (hstay sp hsp) (trodAll_cons_mk (shut_int Tryz.underlying3 w2) (trodAll_cons_mk (shut_int Tryz.underlying3 w3) trodAll_mk0))))) (fun _ _ => rfl) (by simp)
    hb (ok_one (by kernel_rfl) rfl (okWide_bool_mk Tryz.underlying4 _))⟩
end Go.Proofs.YtkajhokkaadiiaaGreatDoor
end
