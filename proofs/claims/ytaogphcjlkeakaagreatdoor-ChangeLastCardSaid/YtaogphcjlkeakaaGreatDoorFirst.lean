/- Part of the proof: AmFirst. -/
import Derived.Test.YtaogphcjlkeakaaGreatDoorCk0
import Derived.Test.YtaogphcjlkeakaaGreatDoorCk1
import Derived.Test.YtaogphcjlkeakaaGreatDoorCk2
import Derived.Test.YtaogphcjlkeakaaGreatDoorCk3
import Derived.Test.YtaogphcjlkeakaaGreatDoorCk4
import Derived.Test.YtaogphcjlkeakaaGreatDoorCk5
import Derived.Test.YtaogphcjlkeakaaGreatDoorCkL
set_option linter.unusedSimpArgs false
set_option linter.unusedVariables false
section
namespace Go.Am
open Go Go.Proofs Go.RowKit
theorem fns_ok:∀ p ∈ theFns,p.1 < 2 ^ 31∧Tryz.prog.funcs[p.1]? = some p.2∧(p.2.name == "runtime.NumGoroutine") = false:=theFns_ok
theorem sumsL0_ok (B:Nat) :∀ p ∈ sumsL0,p.1 < 2 ^ 31∧SumOk Tryz.prog theTys B p.1 p.2:=theSums_ok B
theorem envL0_ok (B:Nat) :EnvOk Tryz.prog theTys B envL0:=EnvOk.of_lists fns_ok (sumsL0_ok B) (theDsums_ok B)
theorem sumsL1_ok (B:Nat) :∀ p ∈ sumsL1,p.1 < 2 ^ 31∧SumOk Tryz.prog theTys B p.1 p.2 :=
 List.forall_mem_append.2 ⟨List.forall_mem_cons.2 ⟨⟨(by decide),SumOk.of_chunks (n:=100000) theTys_ok (envL0_ok B) mixed_ok (List.forall_mem_cons.2 ⟨chunk0,fun _ h=>(by cases h)⟩)⟩,List.forall_mem_cons.2 ⟨⟨(by decide),SumOk.of_chunks (n:=100000) theTys_ok (envL0_ok B) mixed_ok (List.forall_mem_cons.2 ⟨chunk1,fun _ h=>(by cases h)⟩)⟩,List.forall_mem_cons.2 ⟨⟨(by decide),SumOk.of_chunks (n:=100000) theTys_ok (envL0_ok B) mixed_ok (List.forall_mem_cons.2 ⟨chunk3,fun _ h=>(by cases h)⟩)⟩,fun _ h=>(by cases h)⟩⟩⟩,sumsL0_ok B⟩
theorem envL1_ok (B:Nat) :EnvOk Tryz.prog theTys B envL1:=EnvOk.of_lists fns_ok (sumsL1_ok B) (theDsums_ok B)
theorem sumsL2_ok (B:Nat) :∀ p ∈ sumsL2,p.1 < 2 ^ 31∧SumOk Tryz.prog theTys B p.1 p.2 :=
 List.forall_mem_append.2 ⟨List.forall_mem_cons.2 ⟨⟨(by decide),SumOk.of_chunks (n:=100000) theTys_ok (envL1_ok B) mixed_ok (List.forall_mem_cons.2 ⟨chunk2,List.forall_mem_cons.2 ⟨chunk4,List.forall_mem_cons.2 ⟨chunk5,fun _ h=>(by cases h)⟩⟩⟩)⟩,fun _ h=>(by cases h)⟩,sumsL1_ok B⟩
theorem envL2_ok (B:Nat) :EnvOk Tryz.prog theTys B envL2:=EnvOk.of_lists fns_ok (sumsL2_ok B) (theDsums_ok B)
theorem first_ok {B:Nat} {φ:Emb} {w:World} (hH:HRel theTys B φ memL.h0 w) :Returns Tryz.prog theTys B φ memL.h0 w 4 #[] memL.v memL.h1 :=
 Returns.of_chunk (n:=100000) theTys_ok (envL2_ok B) mixed_ok chunkL hH rfl
end Go.Am
end
