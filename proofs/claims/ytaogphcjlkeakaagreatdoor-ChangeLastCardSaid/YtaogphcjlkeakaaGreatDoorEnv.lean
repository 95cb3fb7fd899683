/- Part of the proof: AmEnv. -/
import Derived.Test.YtaogphcjlkeakaaGreatDoorProg
import Derived.Test.YtaogphcjlkeakaaGreatDoorAm22
import Derived.KernelRfl
set_option linter.unusedSimpArgs false
set_option linter.unusedVariables false
section
namespace Go.Am
open Go Go.Proofs
noncomputable def theTys:Tys:=⟨tysOf Tryz.prog.types.toList 0 .l,10,[336,114]⟩
def runs:List (Nat × Nat):=[(2,210),(213,115),(329,1),(331,16),(348,5),(354,6),(361,4),(366,2),(405,1)]
def idxs:List Nat:=runs.flatMap fun r=>List.range' r.1 r.2
noncomputable def fnAt (i:Nat) :Nat × Func:=(i,(Tryz.prog.funcs[i]?).getD Tryz.f2)
noncomputable def theFns:List (Nat × Func):=idxs.map fnAt
set_option maxRecDepth 100000
def FnOk (p:Nat × Func) :Prop:=p.1 < 2 ^ 31∧Tryz.prog.funcs[p.1]? = some p.2∧(p.2.name == "runtime.NumGoroutine") = false
theorem idxs_ok:(idxs.all fun i=>Nat.blt i 2147483648 && (Tryz.prog.funcs[i]?).isSome && !((fnAt i).2.name == "runtime.NumGoroutine")) = true:=by kernel_rfl
theorem fnAt_ok {i:Nat} (h:i ∈ idxs) :FnOk (fnAt i):=by
 have h1:=List.all_eq_true.1 idxs_ok i h
 simp only [Bool.and_eq_true,Bool.not_eq_true'] at h1
 obtain ⟨⟨h1,h2⟩,h3⟩:=h1
 obtain ⟨f,hf⟩:=Option.isSome_iff_exists.1 h2
 refine ⟨Nat.lt_of_lt_of_eq (by rw [Nat.blt_eq] at h1; exact h1) (by decide),?_,h3⟩
 show Tryz.prog.funcs[i]? = some ((Tryz.prog.funcs[i]?).getD Tryz.f2)
 rw [hf]
 rfl
theorem fnsAt_ok {l:List Nat} (h:∀ i ∈ l,i ∈ idxs) :∀ p ∈ l.map fnAt,FnOk p:=fun p hp=>by
 obtain ⟨i,hi,rfl⟩:=List.mem_map.1 hp
 exact fnAt_ok (h i hi)
theorem inIdxs {l:List Nat} (h:(l.all fun i=>idxs.contains i) = true) :∀ i ∈ l,i ∈ idxs:=fun i hi=>by simpa using List.all_eq_true.1 h i hi
theorem theFns_ok:∀ p ∈ theFns,FnOk p:=fnsAt_ok fun _ h=>h
theorem theTys_ok:TOk2 theTys Tryz.prog:=TOk2.of_list (Nat.le_of_ble_eq_true (by kernel_rfl)) info_of_types (by kernel_rfl) (by kernel_rfl)
theorem mixed_ok:Tryz.prog.follows .mixedOrders = true:=by kernel_rfl
end Go.Am
end
