/- Part of the proof: AmDecEnv. -/
import Derived.Test.YtkajhokkaadiiaaGreatDoorFn12
import Derived.Test.YtkajhokkaadiiaaGreatDoorEnv
import Derived.Test.YtkajhokkaadiiaaGreatDoorAm26
set_option linter.unusedSimpArgs false
set_option linter.unusedVariables false
section
namespace Go.Am
open Go Go.Proofs
noncomputable def lawFns : List (Nat × Func) := [(4, Tryz.f4), (9, Tryz.f9), (10, Tryz.f10), (11, Tryz.f11), (12, Tryz.f12), (13, Tryz.f13), (14, Tryz.f14), (15, Tryz.f15), (16, Tryz.f16), (17, Tryz.f17), (18, Tryz.f18), (19, Tryz.f19), (20, Tryz.f20), (21, Tryz.f21), (23, Tryz.f23), (34, Tryz.f34), (35, Tryz.f35), (36, Tryz.f36), (37, Tryz.f37), (38, Tryz.f38), (39, Tryz.f39), (40, Tryz.f40), (41, Tryz.f41), (42, Tryz.f42), (43, Tryz.f43), (68, Tryz.f68), (69, Tryz.f69)]
noncomputable def lawT : PT AFun := putFns theTys lawFns .l
noncomputable def lawSums (B : Nat) : List (Nat × (List AVal → AHeap → ARes)) := [(6, sOracle Tryz.prog theTys B 6 (fun _ => .bool true)), (22, sOracle Tryz.prog theTys B 22 (fun _ => .bool true))]
noncomputable def lawEnv (B : Nat) : Env := ⟨lawT, putAll (lawSums B) .l, putAll ([] : List (Nat × (List AVal → AHeap → Option AHeap))) .l⟩
theorem lawFns_ok : ∀ p ∈ lawFns, FnOk p := fm fnOk4 (fm fnOk9 (fm fnOk10 (fm fnOk11 (fm fnOk12 (fm fnOk13 (fm fnOk14 (fm fnOk15 (fm fnOk16 (fm fnOk17 (fm fnOk18 (fm fnOk19 (fm fnOk20 (fm fnOk21 (fm fnOk23 (fm fnOk34 (fm fnOk35 (fm fnOk36 (fm fnOk37 (fm fnOk38 (fm fnOk39 (fm fnOk40 (fm fnOk41 (fm fnOk42 (fm fnOk43 (fm fnOk68 (fm fnOk69 (fun _ h => by cases h)))))))))))))))))))))))))))
theorem lawEnv_ok (B : Nat) : EnvOk Tryz.prog theTys B (lawEnv B) := EnvOk.of_lists lawFns_ok (fun p hp => by
  simp only [lawSums, List.mem_cons, List.not_mem_nil, or_false] at hp
  rcases hp with rfl | rfl
  · exact ⟨by show (6 : Nat) < _; decide, sumOk_oracle _ _ _ _ _⟩
  · exact ⟨by show (22 : Nat) < _; decide, sumOk_oracle _ _ _ _ _⟩) (fun _ h => by cases h)
theorem code4 : PT.get (Pos.ofNat 4) lawT = some g4 := by kernel_rfl
theorem code9 : PT.get (Pos.ofNat 9) lawT = some g9 := by kernel_rfl
theorem code10 : PT.get (Pos.ofNat 10) lawT = some g10 := by kernel_rfl
theorem code11 : PT.get (Pos.ofNat 11) lawT = some g11 := by kernel_rfl
theorem code12 : PT.get (Pos.ofNat 12) lawT = some g12 := by kernel_rfl
theorem code13 : PT.get (Pos.ofNat 13) lawT = some g13 := by kernel_rfl
theorem code14 : PT.get (Pos.ofNat 14) lawT = some g14 := by kernel_rfl
theorem code15 : PT.get (Pos.ofNat 15) lawT = some g15 := by kernel_rfl
theorem code16 : PT.get (Pos.ofNat 16) lawT = some g16 := by kernel_rfl
theorem code17 : PT.get (Pos.ofNat 17) lawT = some g17 := by kernel_rfl
theorem code18 : PT.get (Pos.ofNat 18) lawT = some g18 := by kernel_rfl
theorem code19 : PT.get (Pos.ofNat 19) lawT = some g19 := by kernel_rfl
theorem code20 : PT.get (Pos.ofNat 20) lawT = some g20 := by kernel_rfl
theorem code21 : PT.get (Pos.ofNat 21) lawT = some g21 := by kernel_rfl
theorem code23 : PT.get (Pos.ofNat 23) lawT = some g23 := by kernel_rfl
theorem code34 : PT.get (Pos.ofNat 34) lawT = some g34 := by kernel_rfl
theorem code35 : PT.get (Pos.ofNat 35) lawT = some g35 := by kernel_rfl
theorem code36 : PT.get (Pos.ofNat 36) lawT = some g36 := by kernel_rfl
theorem code37 : PT.get (Pos.ofNat 37) lawT = some g37 := by kernel_rfl
theorem code38 : PT.get (Pos.ofNat 38) lawT = some g38 := by kernel_rfl
theorem code39 : PT.get (Pos.ofNat 39) lawT = some g39 := by kernel_rfl
theorem code40 : PT.get (Pos.ofNat 40) lawT = some g40 := by kernel_rfl
theorem code41 : PT.get (Pos.ofNat 41) lawT = some g41 := by kernel_rfl
theorem code42 : PT.get (Pos.ofNat 42) lawT = some g42 := by kernel_rfl
theorem code43 : PT.get (Pos.ofNat 43) lawT = some g43 := by kernel_rfl
theorem code68 : PT.get (Pos.ofNat 68) lawT = some g68 := by kernel_rfl
theorem code69 : PT.get (Pos.ofNat 69) lawT = some g69 := by kernel_rfl
theorem lawEnv_sums (B : Nat) (p : Pos) (h : (Pos.beq p (Pos.ofNat 6) || Pos.beq p (Pos.ofNat 22)) = false) : PT.get p (lawEnv B).sums = none := by
  show PT.get p (putAll (lawSums B) .l) = none
  simp only [Bool.or_eq_false_iff] at h
  simp only [lawSums, putAll]
  rw [PT.get_set_other _ _ _ _ (fun e => by subst e; rw [Pos.beq_eq.2 rfl] at h; cases h.2), PT.get_set_other _ _ _ _ (fun e => by subst e; rw [Pos.beq_eq.2 rfl] at h; cases h.1)]
  exact get_nil p
theorem codeOk (B : Nat) : CodeOk4 (lawEnv B) := { s := lawEnv_sums B, f4 := code4, f9 := code9, f10 := code10, f11 := code11, f12 := code12, f13 := code13, f14 := code14, f15 := code15, f16 := code16, f17 := code17, f18 := code18, f19 := code19, f20 := code20, f21 := code21, f23 := code23, f34 := code34, f35 := code35, f36 := code36, f37 := code37, f38 := code38, f39 := code39, f40 := code40, f41 := code41, f42 := code42, f43 := code43, f68 := code68, f69 := code69 }
theorem sum_call {B : Nat} {H : AHeap} {f : FuncId} (hf : f = 6 ∨ f = 22) {args : List AVal} (h : ∀ φ w (args' : Array Value), HRel theTys B φ H w → LRel φ args args'.toList → CallOk Tryz.prog theTys B φ H w f args' (.bool true) H) : CallS (lawEnv B) f args H (.bool true) H := by
  refine ⟨0, fun n _ => ?_⟩
  unfold callA
  have hb : Nat.blt f 2147483648 = true := by rcases hf with rfl | rfl <;> rfl
  have e : PT.get (Pos.ofNat f) (lawEnv B).sums = some (sOracle Tryz.prog theTys B f (fun _ => .bool true)) := by
    show PT.get _ (putAll (lawSums B) .l) = _
    simp only [lawSums, putAll]
    rcases hf with rfl | rfl
    · rw [PT.get_set_other _ _ _ _ (fun e => by have := congrArg Pos.toNat e; revert this; decide)]
      exact PT.get_set_same _ _ _
    · exact PT.get_set_same _ _ _
  rw [hb, e]
  exact oracle_ok h
theorem stay_call {B : Nat} {n : Nat} {H : AHeap} {m v : AVal} {b : Pos} {us : List Nat} (hm : LentB H m us b) (hb : b.toNat < H.nx.toNat) (hv : Reads n H v (cellsOfBytes us)) (hu : ∀ u ∈ us, u < 256) (hul : us.length ≤ 16777216) : CallS (lawEnv B) 22 [m, v] H (.bool true) H := by
  refine sum_call (.inr rfl) fun φ w args' hH hl => .inl ?_
  have hmv := hm.1
  rw [hmv] at hl
  refine stays_run (E := lawEnv B) (restA := stayRest) theTys_ok (fun n => sound theTys_ok (lawEnv_ok _) mixed_ok n) Tryz.func22 (by kernel_rfl) (hrestA := ?hr) (hb := rfl) rfl (by kernel_rfl) (by kernel_rfl) (by kernel_rfl)
    (by kernel_rfl) (by kernel_rfl) (by kernel_rfl) (by kernel_rfl) (by kernel_rfl) (by kernel_rfl) rfl rfl rfl (ty := 26) (e0 := 5) rfl (by kernel_rfl) rfl (by kernel_rfl) (by kernel_rfl) (by kernel_rfl) (by kernel_rfl) (by kernel_rfl)
    hl (Nat.le_refl _) (by omega) (by rw [hv.fLen, cells_length]) (fun t h0 h1 h5 => stay_rest (codeOk B) hm hb hv hu hul t (by rw [hmv]; exact h0) h1 h5) hH
  case hr => kernel_rfl
end Go.Am
end
