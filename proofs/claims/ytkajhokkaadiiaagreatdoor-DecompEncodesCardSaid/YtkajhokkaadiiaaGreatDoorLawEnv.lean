/- Part of the proof: AmLE. -/
import Derived.Test.YtkajhokkaadiiaaGreatDoorFn7
import Derived.Test.YtkajhokkaadiiaaGreatDoorEnv
section
namespace Go.Am
open Go Go.Proofs
noncomputable def lawFns : List (Nat × Func) := [(9, Tryz.f9), (10, Tryz.f10), (11, Tryz.f11), (12, Tryz.f12), (13, Tryz.f13), (14, Tryz.f14), (15, Tryz.f15), (34, Tryz.f34), (35, Tryz.f35), (36, Tryz.f36), (37, Tryz.f37), (38, Tryz.f38), (68, Tryz.f68), (69, Tryz.f69)]
noncomputable def lawEnv : Env := ⟨putFns theTys lawFns .l, putAll ([] : List (Nat × (List AVal → AHeap → ARes))) .l, putAll ([] : List (Nat × (List AVal → AHeap → Option AHeap))) .l⟩
theorem lawFns_ok : ∀ p ∈ lawFns, FnOk p := fm fnOk9 (fm fnOk10 (fm fnOk11 (fm fnOk12 (fm fnOk13 (fm fnOk14 (fm fnOk15 (fm fnOk34 (fm fnOk35 (fm fnOk36 (fm fnOk37 (fm fnOk38 (fm fnOk68 (fm fnOk69 (fun _ h => (by cases h)))))))))))))))
theorem lawEnv_ok (B : Nat) : EnvOk Tryz.prog theTys B lawEnv := EnvOk.of_lists lawFns_ok (fun _ h => by cases h) (fun _ h => by cases h)
theorem code9 : PT.get (Pos.ofNat 9) lawEnv.fns = some g9 := by kernel_rfl
theorem code10 : PT.get (Pos.ofNat 10) lawEnv.fns = some g10 := by kernel_rfl
theorem code11 : PT.get (Pos.ofNat 11) lawEnv.fns = some g11 := by kernel_rfl
theorem code12 : PT.get (Pos.ofNat 12) lawEnv.fns = some g12 := by kernel_rfl
theorem code13 : PT.get (Pos.ofNat 13) lawEnv.fns = some g13 := by kernel_rfl
theorem code14 : PT.get (Pos.ofNat 14) lawEnv.fns = some g14 := by kernel_rfl
theorem code15 : PT.get (Pos.ofNat 15) lawEnv.fns = some g15 := by kernel_rfl
theorem code34 : PT.get (Pos.ofNat 34) lawEnv.fns = some g34 := by kernel_rfl
theorem code35 : PT.get (Pos.ofNat 35) lawEnv.fns = some g35 := by kernel_rfl
theorem code36 : PT.get (Pos.ofNat 36) lawEnv.fns = some g36 := by kernel_rfl
theorem code37 : PT.get (Pos.ofNat 37) lawEnv.fns = some g37 := by kernel_rfl
theorem code38 : PT.get (Pos.ofNat 38) lawEnv.fns = some g38 := by kernel_rfl
theorem code68 : PT.get (Pos.ofNat 68) lawEnv.fns = some g68 := by kernel_rfl
theorem code69 : PT.get (Pos.ofNat 69) lawEnv.fns = some g69 := by kernel_rfl
theorem codeOk : CodeOk lawEnv := ⟨fun p => get_nil p, code9, code10, code11, code12, code13, code14, code15, code34, code35, code36, code37, code38, code68, code69⟩
end Go.Am
end
