import Derived.Test.YtepncpggenncoaaGreatDoorCk0
import Derived.Test.YtepncpggenncoaaGreatDoorCk1
import Derived.Test.YtepncpggenncoaaGreatDoorCkL
set_option linter.unusedSimpArgs false
set_option linter.unusedVariables false
set_option maxHeartbeats 8000000
namespace Go.Am
open Go Go.Proofs Go.RowKit
theorem q47:∀ p∈y02,p.1<2^31/\Tryz.prog.funcs[p.1]? = some p.2/\(p.2.name == "runtime.NumGoroutine")=false:=y5r
theorem j6s(B:Nat) :∀ p∈y5u,p.1<2^31/\z2k Tryz.prog z1m B p.1 p.2:=y3t B
theorem y24(B:Nat) :EnvOk Tryz.prog z1m B q7x:=EnvOk.of_lists q47 (j6s B) (j07 B)
theorem y5t(B:Nat) :∀ p∈q3q,p.1<2^31/\z2k Tryz.prog z1m B p.1 p.2 :=
 List.forall_mem_append.2 ⟨List.forall_mem_cons.2 ⟨⟨(by decide),z2k.of_chunks (n:=100000) z2v (y24 B) z8k (List.forall_mem_cons.2 ⟨k1x,fun _ h=>(by cases h)⟩)⟩,List.forall_mem_cons.2 ⟨⟨(by decide),z2k.of_chunks (n:=100000) z2v (y24 B) z8k (List.forall_mem_cons.2 ⟨k1w,fun _ h=>(by cases h)⟩)⟩,fun _ h=>(by cases h)⟩⟩,j6s B⟩
theorem q2m(B:Nat) :EnvOk Tryz.prog z1m B k1j:=EnvOk.of_lists q47 (y5t B) (j07 B)
theorem q2g{B:Nat}{φ:Emb}{w:World}(hH:HRel z1m B φ memL.h0 w) :z4r Tryz.prog z1m B φ memL.h0 w 4 #[] memL.v memL.h1 :=
 z4r.of_chunk (n:=100000) z2v (q2m B) z8k k1v hH rfl
end Go.Am
