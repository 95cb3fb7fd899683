/- Part of the proof: AmBackEnv. -/
import Derived.Test.YtkajhokkaadiiaaGreatDoorFn9
import Derived.Test.YtkajhokkaadiiaaGreatDoorEnv
import Derived.Test.YtkajhokkaadiiaaGreatDoorAm26
set_option linter.unusedSimpArgs false
set_option linter.unusedVariables false
section
namespace Go.Am
open Go Go.Proofs
noncomputable def lawFns : List (Nat × Func) := [(5, Tryz.f5), (9, Tryz.f9), (10, Tryz.f10), (11, Tryz.f11), (12, Tryz.f12), (13, Tryz.f13), (14, Tryz.f14), (15, Tryz.f15), (20, Tryz.f20), (34, Tryz.f34), (35, Tryz.f35), (36, Tryz.f36), (37, Tryz.f37), (38, Tryz.f38), (39, Tryz.f39), (40, Tryz.f40), (41, Tryz.f41), (42, Tryz.f42), (68, Tryz.f68), (69, Tryz.f69)]
noncomputable def lawT : PT AFun := putFns theTys lawFns .l
noncomputable def lawSums (B : Nat) : List (Nat × (List AVal → AHeap → ARes)) := [(6, sOracle Tryz.prog theTys B 6 (fun _ => .bool true))]
noncomputable def lawEnv (B : Nat) : Env := ⟨lawT, putAll (lawSums B) .l, putAll ([] : List (Nat × (List AVal → AHeap → Option AHeap))) .l⟩
theorem lawFns_ok : ∀ p ∈ lawFns, FnOk p := fm fnOk5 (fm fnOk9 (fm fnOk10 (fm fnOk11 (fm fnOk12 (fm fnOk13 (fm fnOk14 (fm fnOk15 (fm fnOk20 (fm fnOk34 (fm fnOk35 (fm fnOk36 (fm fnOk37 (fm fnOk38 (fm fnOk39 (fm fnOk40 (fm fnOk41 (fm fnOk42 (fm fnOk68 (fm fnOk69 (fun _ h => by cases h))))))))))))))))))))
theorem lawEnv_ok (B : Nat) : EnvOk Tryz.prog theTys B (lawEnv B) := EnvOk.of_lists lawFns_ok (fun p hp => by
  simp only [lawSums, List.mem_cons, List.not_mem_nil, or_false] at hp
  subst hp
  exact ⟨by show (6 : Nat) < _; decide, sumOk_oracle _ _ _ _ _⟩) (fun _ h => by cases h)
theorem code5 : PT.get (Pos.ofNat 5) lawT = some g5 := by kernel_rfl
theorem code9 : PT.get (Pos.ofNat 9) lawT = some g9 := by kernel_rfl
theorem code10 : PT.get (Pos.ofNat 10) lawT = some g10 := by kernel_rfl
theorem code11 : PT.get (Pos.ofNat 11) lawT = some g11 := by kernel_rfl
theorem code12 : PT.get (Pos.ofNat 12) lawT = some g12 := by kernel_rfl
theorem code13 : PT.get (Pos.ofNat 13) lawT = some g13 := by kernel_rfl
theorem code14 : PT.get (Pos.ofNat 14) lawT = some g14 := by kernel_rfl
theorem code15 : PT.get (Pos.ofNat 15) lawT = some g15 := by kernel_rfl
theorem code20 : PT.get (Pos.ofNat 20) lawT = some g20 := by kernel_rfl
theorem code34 : PT.get (Pos.ofNat 34) lawT = some g34 := by kernel_rfl
theorem code35 : PT.get (Pos.ofNat 35) lawT = some g35 := by kernel_rfl
theorem code36 : PT.get (Pos.ofNat 36) lawT = some g36 := by kernel_rfl
theorem code37 : PT.get (Pos.ofNat 37) lawT = some g37 := by kernel_rfl
theorem code38 : PT.get (Pos.ofNat 38) lawT = some g38 := by kernel_rfl
theorem code39 : PT.get (Pos.ofNat 39) lawT = some g39 := by kernel_rfl
theorem code40 : PT.get (Pos.ofNat 40) lawT = some g40 := by kernel_rfl
theorem code41 : PT.get (Pos.ofNat 41) lawT = some g41 := by kernel_rfl
theorem code42 : PT.get (Pos.ofNat 42) lawT = some g42 := by kernel_rfl
theorem code68 : PT.get (Pos.ofNat 68) lawT = some g68 := by kernel_rfl
theorem code69 : PT.get (Pos.ofNat 69) lawT = some g69 := by kernel_rfl
theorem lawEnv_sums (B : Nat) (p : Pos) (h : Pos.beq p (Pos.ofNat 6) = false) : PT.get p (lawEnv B).sums = none := by
  show PT.get p (putAll (lawSums B) .l) = none
  simp only [lawSums, putAll]
  rw [PT.get_set_other _ _ _ _ (fun e => by subst e; rw [Pos.beq_eq.2 rfl] at h; cases h)]
  exact get_nil p
theorem codeOk (B : Nat) : CodeOk3 (lawEnv B) := { s := lawEnv_sums B, f5 := code5, f9 := code9, f10 := code10, f11 := code11, f12 := code12, f13 := code13, f14 := code14, f15 := code15, f20 := code20, f34 := code34, f35 := code35, f36 := code36, f37 := code37, f38 := code38, f39 := code39, f40 := code40, f41 := code41, f42 := code42, f68 := code68, f69 := code69 }
theorem first_call {B : Nat} {H : AHeap} (h : ∀ φ w (args' : Array Value), HRel theTys B φ H w → LRel φ [] args'.toList → CallOk Tryz.prog theTys B φ H w 6 args' (.bool true) H) : CallS (lawEnv B) 6 [] H (.bool true) H := by
  refine ⟨0, fun n _ => ?_⟩
  unfold callA
  have e : PT.get (Pos.ofNat 6) (lawEnv B).sums = some (sOracle Tryz.prog theTys B 6 (fun _ => .bool true)) := by
    show PT.get _ (putAll (lawSums B) .l) = _
    simp only [lawSums, putAll]
    exact PT.get_set_same _ _ _
  rw [e]
  exact oracle_ok h
end Go.Am
end
