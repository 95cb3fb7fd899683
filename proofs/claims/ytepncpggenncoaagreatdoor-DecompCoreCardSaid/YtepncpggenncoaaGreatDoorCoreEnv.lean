import Derived.Test.YtepncpggenncoaaGreatDoorDc18
import Derived.Test.YtepncpggenncoaaGreatDoorEnv
import Derived.Test.YtepncpggenncoaaGreatDoorAm17
set_option linter.all false
set_option maxRecDepth 100000
set_option maxHeartbeats 8000000
namespace Go.Am
open Go Go.Proofs Go.RowKit
def lawIds:List Nat:=[3,5,6,7,8,9,10,11,12,15,16,18,21,22,23,24,25,26,27,28,29,30,31,32,33,34,35,36,38,39,40,41,42,43,44,46,48,49,50,51,52,53,55,56,57,58,59,60,61,62,63,66,67,71,72,73,74,75,76,77,78,79,80,82,83,84,85,86,90,91,92,93,94,95,96,97,101,102,103,111,112,113,114,115,116,118,119,120,121,122,123,124,125,126,128,134,138,140,141,143,144,145,146,148,149,150,156,157,158,159,160,169,172,173,174,175,176,177,178,179,196,197,198,203,205,206,207,208,209,210,223,224,225,226,227,232,233,234,235,263,264,265,266,267,268,269,270,271,275,276,288,289,301,302,303,304,305,320,324,325,335,340,347,348,355,358,360,361,364,365,367,379]
noncomputable def lawFns:List (Nat×Func):=lawIds.map fnAt
noncomputable def lawT:PT AFun:=j1q z1m lawFns .l
noncomputable def lawSums(B:Nat) :List (Nat×(List AVal->AHeap->ARes)):=[(323,(sCrc (Pos.ofNat 4))),(139,j60),(117,(z5o 172)),(81,z5p),(54,j61),(4,z87 Tryz.prog z1m B 4 (fun _=>.bool true))]
noncomputable def lawEnv(B:Nat) :Env:=⟨lawT,z1v (lawSums B) .l,z1v ([] :List (Nat×(List AVal->AHeap->Option AHeap))) .l⟩
theorem pos_ne{m n:Nat}(hm:m<2^31)(hn:n<2^31)(h:m≠n) :Pos.ofNat m≠Pos.ofNat n:=fun e=>h (Pos.ofNat_inj hm hn e)
theorem lawFns_ok:∀ p∈lawFns,FnOk p:=y2s (q7h (by kernel_rfl))
theorem lawEnv_ok(B:Nat) :EnvOk Tryz.prog z1m B (lawEnv B):=EnvOk.of_lists lawFns_ok (fun p hp=>by
 simp only[lawSums,List.mem_cons,List.not_mem_nil,or_false]at hp
 rcases hp with rfl | rfl | rfl | rfl | rfl | rfl
 .exact⟨by show(323:Nat)<_;decide,q3t B⟩
 .exact⟨by show(139:Nat)<_;decide,q3v B⟩
 .exact⟨by show(117:Nat)<_;decide,q3w B⟩
 .exact⟨by show(81:Nat)<_;decide,q8z B⟩
 .exact⟨by show(54:Nat)<_;decide,q80 B⟩
 .exact⟨by show(4:Nat)<_;decide,j6v _ _ _ _ _⟩) (fun _ h=>by cases h)
theorem lawEnv_sums(B:Nat)(p:Pos)(h:(Pos.beq p (Pos.ofNat 4) || (Pos.beq p (Pos.ofNat 54) || (Pos.beq p (Pos.ofNat 81) || (Pos.beq p (Pos.ofNat 117) || (Pos.beq p (Pos.ofNat 139) || Pos.beq p (Pos.ofNat 323))))))=false) :PT.get p (lawEnv B).sums=none:=by
 simp only[Bool.or_eq_false_iff]at h
 obtain⟨h0,h1,h2,h3,h4,h5⟩:=h
 have ne:∀ q,Pos.beq p q=false->q≠p:=fun q hq e=>by subst e;rw[Pos.beq_eq.2 rfl]at hq;cases hq
 show PT.get p (z1v (lawSums B) .l)=none
 simp only[lawSums,z1v]
 rw[PT.get_set_other _ _ _ _ (ne _ h0),PT.get_set_other _ _ _ _ (ne _ h1),PT.get_set_other _ _ _ _ (ne _ h2),PT.get_set_other _ _ _ _ (ne _ h3),PT.get_set_other _ _ _ _ (ne _ h4),PT.get_set_other _ _ _ _ (ne _ h5)]
 exact z2o p
theorem law323(B:Nat) :PT.get (Pos.ofNat 323) (lawEnv B).sums=some ((sCrc (Pos.ofNat 4))):=by
 show PT.get _ (z1v (lawSums B) .l)=_
 simp only[lawSums,z1v]
 rw[PT.get_set_other _ _ _ _ (pos_ne (by decide) (by decide) (by decide)),PT.get_set_other _ _ _ _ (pos_ne (by decide) (by decide) (by decide)),PT.get_set_other _ _ _ _ (pos_ne (by decide) (by decide) (by decide)),PT.get_set_other _ _ _ _ (pos_ne (by decide) (by decide) (by decide)),PT.get_set_other _ _ _ _ (pos_ne (by decide) (by decide) (by decide))]
 exact PT.get_set_same _ _ _
theorem law139(B:Nat) :PT.get (Pos.ofNat 139) (lawEnv B).sums=some (j60):=by
 show PT.get _ (z1v (lawSums B) .l)=_
 simp only[lawSums,z1v]
 rw[PT.get_set_other _ _ _ _ (pos_ne (by decide) (by decide) (by decide)),PT.get_set_other _ _ _ _ (pos_ne (by decide) (by decide) (by decide)),PT.get_set_other _ _ _ _ (pos_ne (by decide) (by decide) (by decide)),PT.get_set_other _ _ _ _ (pos_ne (by decide) (by decide) (by decide))]
 exact PT.get_set_same _ _ _
theorem law117(B:Nat) :PT.get (Pos.ofNat 117) (lawEnv B).sums=some ((z5o 172)):=by
 show PT.get _ (z1v (lawSums B) .l)=_
 simp only[lawSums,z1v]
 rw[PT.get_set_other _ _ _ _ (pos_ne (by decide) (by decide) (by decide)),PT.get_set_other _ _ _ _ (pos_ne (by decide) (by decide) (by decide)),PT.get_set_other _ _ _ _ (pos_ne (by decide) (by decide) (by decide))]
 exact PT.get_set_same _ _ _
theorem law81(B:Nat) :PT.get (Pos.ofNat 81) (lawEnv B).sums=some (z5p):=by
 show PT.get _ (z1v (lawSums B) .l)=_
 simp only[lawSums,z1v]
 rw[PT.get_set_other _ _ _ _ (pos_ne (by decide) (by decide) (by decide)),PT.get_set_other _ _ _ _ (pos_ne (by decide) (by decide) (by decide))]
 exact PT.get_set_same _ _ _
theorem law54(B:Nat) :PT.get (Pos.ofNat 54) (lawEnv B).sums=some (j61):=by
 show PT.get _ (z1v (lawSums B) .l)=_
 simp only[lawSums,z1v]
 rw[PT.get_set_other _ _ _ _ (pos_ne (by decide) (by decide) (by decide))]
 exact PT.get_set_same _ _ _
theorem law4(B:Nat) :PT.get (Pos.ofNat 4) (lawEnv B).sums=some (z87 Tryz.prog z1m B 4 (fun _=>.bool true)):=by
 show PT.get _ (z1v (lawSums B) .l)=_
 simp only[lawSums,z1v]
 exact PT.get_set_same _ _ _
theorem cf{B k:Nat}{f:Func}(hs:PT.get (Pos.ofNat k) (lawEnv B).sums=none:=by exact lawEnv_sums _ _ rfl)(hk:Nat.blt k 2147483648=true:=by rfl)(h1:PT.get (Pos.ofNat k) lawT=z46 z1m f:=by kernel_rfl)(h2:(z46 z1m f).isSome=true:=by kernel_rfl) :Code (lawEnv B) k (z0g f):=by
 refine⟨hs,hk,?_⟩
 show PT.get _ lawT=_
 rw[h1]
 unfold z0g
 cases h:z46 z1m f with
 | none=>rw[h]at h2;cases h2
 | some a=>rfl
theorem ckS(B:Nat) :CkS (lawEnv B):=⟨⟨cf,cf,cf,cf,cf,cf,cf,cf,cf,cf,cf,cf,cf,cf,cf,cf,cf,cf,cf,cf,cf,cf,cf,cf,cf,cf,cf,cf,cf,cf,cf,cf,cf,cf,cf,cf,cf,cf,cf,cf,cf,cf,cf,cf,cf,cf,cf,cf,cf,cf,cf,cf,cf,cf,cf,cf,cf,cf,cf,cf,cf,cf,cf,cf,cf,cf,cf,cf,cf,cf,cf,cf,cf,cf,cf,cf,cf,cf,cf,cf,cf,cf,cf,cf,cf,cf,cf,cf,cf,cf,cf,cf,cf,cf,cf,cf,cf,cf,cf,cf,cf,cf,cf,cf,cf,cf,cf,cf,cf,cf,cf,cf,cf,cf,cf,cf,cf,cf,cf,cf,cf,cf,cf,cf,cf,cf,cf,cf,cf,cf,cf,cf,cf,cf,cf,cf,cf,cf,cf,cf,cf,cf,cf,cf,cf,cf,cf,cf,cf,cf,cf,cf,cf,cf,cf,cf,cf,cf,cf,cf,cf,cf,cf,cf,cf,cf,cf,cf,cf,cf,cf,cf⟩,law54 B,law81 B,law117 B,law139 B,law323 B⟩
theorem first_call{B:Nat}{H:AHeap}(h:∀ φ w (args':Array Value),HRel z1m B φ H w->LRel φ [] args'.toList->z7q Tryz.prog z1m B φ H w 4 args' (.bool true) H) :z0f (lawEnv B) 4 [] H (.bool true) H:=by
 refine⟨0,fun n _=>?_⟩
 unfold z9p
 rw[law4 B]
 exact y7m h
end Go.Am
