/- Part of the proof: AmSortZ, AmSortT, AmTrip. -/
import Derived.Test.YtaogphcjlkeakaaGreatDoorAm27
import Derived.Lib.SlicesCompact
import Derived.Shelf.SlSortCmp.InsertionK
import Derived.Test.YtaogphcjlkeakaaGreatDoorAm25
set_option linter.unusedSimpArgs false
set_option linter.unusedVariables false
section
namespace Go.Am
open Go Go.RowKit
open Go.Sort (grow putRow mapBlock putCells Holds)
def intsOf:List AVal→Option (List Int)
 | []=>some []
 | .int .i64 z :: l=>match intsOf l with
  | some m=>some (z :: m)
  | none=>none
 | _ :: _=>none
def intVals:List Int→List AVal
 | []=>[]
 | z :: l=>.int .i64 z :: intVals l
def insZ (a:Int) :List Int→List Int
 | []=>[a]
 | b :: l=>match ltI b a with
  | true=>b :: insZ a l
  | false=>a :: b :: l
def sortZ:List Int→List Int
 | []=>[]
 | a :: l=>insZ a (sortZ l)
def compactFrom (a:Int) :List Int→List Int
 | []=>[a]
 | b :: l=>match eqI b a with
  | true=>compactFrom a l
  | false=>a :: compactFrom b l
def compactZ:List Int→List Int
 | []=>[]
 | a :: l=>compactFrom a l
def zeros:Nat→List AVal
 | 0=>[]
 | n + 1=>.int .i64 (.ofNat 0) :: zeros n
def sSortZ:List AVal→AHeap→ARes
 | [.sl b o n cap sz],h=>match Nat.beq o 0,Nat.beq sz 0,PT.get b h.t with
  | true,true,some (.cells l false false)=>match lsub l 0 n with
   | some m=>match intsOf m,Nat.ble n 1000000000 with
    | some zs,true=>some (.tup [],h.upd b (.cells (intVals (sortZ zs) ++ l.drop n) false false))
    | _,_=>none
   | none=>none
  | _,_,_=>none
 | _,_=>none
def sCompactZ:List AVal→AHeap→ARes
 | [.sl b o n cap sz],h=>match Nat.beq o 0,Nat.beq sz 0,PT.get b h.t with
  | true,true,some (.cells l false false)=>match lsub l 0 n with
   | some m=>match intsOf m,Nat.ble n 1000000000,Nat.ble n cap with
    | some zs,true,true=>match (compactZ zs).length with
     | k=>some (.sl b 0 k cap 0,h.upd b (.cells ((intVals (compactZ zs) ++ zeros (Nat.sub n k)) ++ l.drop n) false false))
    | _,_,_=>none
   | none=>none
  | _,_,_=>none
 | _,_=>none
theorem intVals_eq:∀ l,intVals l = l.map (AVal.int .i64)
 | []=>rfl
 | z :: l=>by simp [intVals,intVals_eq l]
theorem intsOf_ok:∀ {l:List AVal} {zs:List Int},intsOf l = some zs→l = intVals zs
 | [],zs,h=>by simp [intsOf] at h; subst h; rfl
 | a :: l,zs,h=>by
  unfold intsOf at h
  split at h
  ·rename_i e; cases e
  ·rename_i z l' e
   cases e
   split at h
   ·rename_i m hm
    cases h
    rw [intsOf_ok hm]; rfl
   ·cases h
  ·cases h
theorem intsOf_vals:∀ zs,intsOf (intVals zs) = some zs
 | []=>rfl
 | z :: l=>by simp [intVals,intsOf,intsOf_vals l]
theorem insZ_perm (a:Int) :∀ l,(insZ a l).Perm (a :: l)
 | []=>List.Perm.refl _
 | b :: l=>by
  simp only [insZ]
  split
  ·exact ((insZ_perm a l).cons b).trans (List.Perm.swap _ _ _)
  ·exact List.Perm.refl _
theorem sortZ_perm:∀ l,(sortZ l).Perm l
 | []=>List.Perm.refl _
 | a :: l=>(insZ_perm a (sortZ l)).trans ((sortZ_perm l).cons a)
theorem insZ_sorted (a:Int) :∀ {l:List Int},l.Pairwise (·≤·)→(insZ a l).Pairwise (·≤·)
 | [],_=>by simp [insZ]
 | b :: l,h=>by
  obtain ⟨h1,h2⟩:=List.pairwise_cons.1 h
  simp only [insZ]
  split
  ·rename_i hlt
   rw [ltI_eq] at hlt
   have hlt:=of_decide_eq_true hlt
   refine List.pairwise_cons.2 ⟨fun y hy=>?_,insZ_sorted a h2⟩
   rcases List.mem_cons.1 ((insZ_perm a l).mem_iff.1 hy) with rfl | hy
   ·omega
   ·exact h1 y hy
  ·rename_i hlt
   rw [ltI_eq] at hlt
   have hlt:=of_decide_eq_false hlt
   refine List.pairwise_cons.2 ⟨fun y hy=>?_,h⟩
   rcases List.mem_cons.1 hy with rfl | hy
   ·omega
   ·have:=h1 y hy; omega
theorem sortZ_sorted:∀ l,(sortZ l).Pairwise (·≤·)
 | []=>List.Pairwise.nil
 | a :: l=>insZ_sorted a (sortZ_sorted l)
theorem sortZ_length (l:List Int) :(sortZ l).length = l.length:=(sortZ_perm l).length_eq
theorem sorted_one {l l':List Int} (h:l.Perm l') (h1:l.Pairwise (·≤·)) (h2:l'.Pairwise (·≤·)) :l = l' :=
 List.Perm.eq_of_pairwise (le:=fun a b=>a≤b) (fun a b _ _ h1 h2=>Int.le_antisymm h1 h2) h1 h2 h
theorem mergeSort_eq (l:List Int) :(l.mergeSort fun x y=>decide (x≤y)) = sortZ l:=by
 refine sorted_one ((List.mergeSort_perm l _).trans (sortZ_perm l).symm) ?_ (sortZ_sorted l)
 have:=List.pairwise_mergeSort (le:=fun x y:Int=>decide (x≤y)) (fun a b c h1 h2=>by simp only [decide_eq_true_eq] at *; omega) (fun a b=>by simp only [Bool.or_eq_true,decide_eq_true_eq]; omega) l
 exact this.imp fun h=>of_decide_eq_true h
theorem zeros_eq:∀ n,zeros n = intVals (List.replicate n 0)
 | 0=>rfl
 | n + 1=>by simp [zeros,List.replicate,intVals,zeros_eq n]
theorem intVals_append (l m:List Int) :intVals (l ++ m) = intVals l ++ intVals m:=by simp [intVals_eq]
theorem intVals_length (l:List Int) :(intVals l).length = l.length:=by simp [intVals_eq]
theorem flat_intVals (l:List Int) :(intVals l).all flatV = true:=by
 rw [intVals_eq]
 simp [flatV]
section
variable {P:Program} {T:Tys} {B:Nat} {φ:Emb} {H:AHeap} {w:World}
theorem int_get {L:List Int} {j:Nat} {a:AVal} (h:(intVals L)[j]? = some a) :VRel φ a (Value.int .i64 (L.toArray[j]!)):=by
 rw [intVals_eq,List.getElem?_map,Option.map_eq_some_iff] at h
 obtain ⟨z,hz,rfl⟩:=h
 obtain ⟨hj,rfl⟩:=List.getElem?_eq_some_iff.1 hz
 simp [hj]
 rfl
theorem ints_row (hH:HRel T B φ H w) {b:Pos} {n cap:Nat} {vs:Array Value} (hl:LRel φ [.sl b 0 n cap 0] vs.toList) {l:List AVal} (hb:PT.get b H.t = some (.cells l false false)) {zs:List Int} (hz:lsub l 0 n = some (intVals zs)) :
  n = zs.length∧l = intVals zs ++ l.drop n∧∃ x a,φ b = some x∧vs = #[.slice (some a) n cap]∧(a = ⟨x.c,0,none⟩∨n = 0)∧n≤cap∧x.c < w.heap.size∧Holds (Value.int .i64) w x.c 0 zs.toArray:=by
 obtain ⟨v,r,e1,⟨x,a,cap',hx,rfl,h1,h2,h3⟩,e2⟩:=hl
 have e2:r = []:=e2
 subst e2
 obtain ⟨e3,e4⟩:=lsub_eq hz
 simp only [List.drop_zero] at e3
 have hn:n = zs.length:=by
  have:=congrArg List.length e3
  rw [intVals_length,List.length_take] at this
  omega
 have hl':l = intVals zs ++ l.drop n:=by
  conv=>lhs; rw [← List.take_append_drop n l,← e3]
 have hb':PT.get b H.t = some (.cells (intVals zs ++ l.drop n) false false):=by rw [← hl']; exact hb
 obtain ⟨hHo,hs0⟩:=row_holds (enc:=Value.int .i64) (d:=zs.toArray) hH hx hb' (by simp [intVals_length]) (by
  intro j a v ha hv
  rw [intVals_eq,List.getElem?_map,Option.map_eq_some_iff] at ha
  obtain ⟨z,hz,rfl⟩:=ha
  have hv:v = .int .i64 z:=hv
  rw [hv]
  simp [List.getElem?_eq_some_iff] at hz
  obtain ⟨hj,rfl⟩:=hz
  simp [hj])
 rcases h3 with ⟨_,rfl,h3⟩ | ⟨h,_⟩ | ⟨h,_⟩
 ·refine ⟨hn,hl',x,a,hx,Array.ext' e1,?_,h1,(hH.low b x hx).2,hHo⟩
  rcases h3 with h3 | h3
  ·rw [hs0] at h3; exact .inl h3
  ·exact .inr (by omega)
 ·exact absurd rfl h
 ·exact absurd rfl h
end
section
variable {P:Program} {T:Tys} {B:Nat}
theorem sumOk_sortZ {f:FuncId} {fn:Func} {c:Code} (hf:P.funcs[f]? = some fn) (hname:(fn.name == "runtime.NumGoroutine") = false) (hbody:fn.body = some c)
  (hc:∀ (blk cap:Nat) (zs:List Int) (w:World),Holds (Value.int .i64) w blk 0 zs.toArray→blk < w.heap.size→zs.length < 4611686018427387904 →
   Calls P f #[.slice (some ⟨blk,0,none⟩) zs.length cap] w fun e w'=>e = .returned (.tuple #[])∧∃ n os,w' = grow (putRow (Value.int .i64) (Go.Sort.ahead w n) blk 0 (zs.mergeSort fun x y=>decide (x≤y)).toArray) os)
  (h0:∀ p cap w,Calls P f #[.slice p 0 cap] w fun e w'=>e = .returned (.tuple #[])∧w' = w) :SumOk P T B f sSortZ:=by
 intro φ H w args args' v H' hH hl h
 unfold sSortZ at h
 split at h
 rotate_left
 ·cases h
 rename_i b o n cap sz
 split at h
 rotate_left
 ·cases h
 rename_i l ho hsz hb
 have ho:o = 0:=Nat.eq_of_beq_eq_true ho
 have hsz:sz = 0:=Nat.eq_of_beq_eq_true hsz
 subst ho hsz
 split at h
 rotate_left
 ·cases h
 rename_i m hm
 split at h
 rotate_left
 ·cases h
 rename_i zs hzs hle
 cases h
 rw [intsOf_ok hzs] at hm
 obtain ⟨hn,hl',x,a,hx,rfl,ha,hcap,hlt,hHo⟩:=ints_row hH hl hb hm
 have hle:=Nat.le_of_ble_eq_true hle
 refine .inl ⟨run_callFunc hf hname hbody,?_⟩
 by_cases hn0:n = 0
 ·subst hn0
  have hz0:zs = []:=List.length_eq_zero_iff.1 hn.symm
  subst hz0
  refine callsIn_FR (r:=none) (n:=0) (m:=0) (callsIn_wide.2 (Calls.mono (h0 (some a) cap w) ?_))
  rintro e w' ⟨rfl,rfl⟩
  refine ⟨_,φ,rfl,⟨#[],rfl,rfl⟩,?_⟩
  have:=Sim.row (enc:=Value.int .i64) (d:=#[]) hH hx (new:=[]) hb rfl (by simp) (by simp) 0 #[]
  have hw:grow (putRow (Value.int .i64) (Go.Sort.ahead w' 0) x.c 0 #[]) #[] = w':=by
   rw [Go.Sort.grow_empty,Go.Sort.ahead_zero,putRow,Go.Sort.mapBlock_id]
   intro c e fr _
   apply Array.ext
   ·simp [putCells]
   ·intro i h1 h2
    simp [putCells]
  rw [hw] at this
  exact this
 ·have hae:a = ⟨x.c,0,none⟩:=by rcases ha with h | h; exact h; exact absurd h hn0
  subst hae
  have hcall:=hc x.c cap zs w hHo hlt (by omega)
  rw [← hn] at hcall
  refine callsIn_FR (r:=none) (n:=0) (m:=0) (callsIn_wide.2 (Calls.mono hcall ?_))
  rintro e w' ⟨rfl,q,os,rfl⟩
  rw [mergeSort_eq]
  have hsl:=sortZ_length zs
  have:=Sim.row (enc:=Value.int .i64) (d:=(sortZ zs).toArray) hH hx (new:=intVals (sortZ zs)) hb (by simp [intVals_length]) (by rw [intVals_length]; have:=(lsub_eq hm).2; omega) (fun j a ha=>int_get ha) q os
  rw [intVals_length,hsl,← hn] at this
  exact ⟨_,φ,rfl,⟨#[],rfl,rfl⟩,this⟩
end
def afterZ (a:Int) :List Int→List Int
 | []=>[]
 | b :: l=>match eqI b a with
  | true=>afterZ a l
  | false=>b :: afterZ b l
theorem compactFrom_eq (a:Int) :∀ l,compactFrom a l = a :: afterZ a l
 | []=>rfl
 | b :: l=>by
  simp only [compactFrom,afterZ]
  cases he:eqI b a with
  | true=>simp only; exact compactFrom_eq a l
  | false=>simp only; rw [compactFrom_eq b l]
open Go.Lib in
theorem compactUpTo_after:∀ (l pre:List Int) (a:Int),compactUpTo (pre ++ a :: l).toArray (pre.length + 1 + l.length) = compactUpTo (pre ++ a :: l).toArray (pre.length + 1) ++ afterZ a l
 | [],pre,a=>by simp [afterZ]
 | b :: l,pre,a=>by
  have ih:=compactUpTo_after l (pre ++ [a]) b
  have e1:pre ++ [a] ++ b :: l = pre ++ a :: b :: l:=by simp
  rw [e1] at ih
  have e2:(pre ++ [a]).length + 1 + l.length = pre.length + 1 + (b :: l).length:=by simp; omega
  rw [e2] at ih
  rw [ih]
  have e3:(pre ++ [a]).length + 1 = (pre.length + 1) + 1:=by simp
  rw [e3,compactUpTo_succ]
  have g1:(pre ++ a :: b :: l).toArray[pre.length + 1]! = b:=by
   simp [List.getElem?_append_right]
  have g0:(pre ++ a :: b :: l).toArray[pre.length]! = a:=by
   simp [List.getElem?_append_right]
  have hk:keeps (pre ++ a :: b :: l).toArray (pre.length + 1) = !(eqI b a):=by
   unfold keeps
   rw [Nat.add_sub_cancel,g1,g0,eqI_eq]
   by_cases hba:b = a <;> simp [hba]
  rw [hk,g1,List.append_assoc]
  congr 1
  simp only [afterZ]
  cases he:eqI b a with
  | true =>
   have:b = a:=by rw [eqI_eq] at he; simpa using he
   subst this
   simp
  | false=>simp
theorem compact_eq (zs:List Int) :Go.Lib.compact zs = compactZ zs:=by
 cases zs with
 | nil=>rfl
 | cons a l =>
  have:=compactUpTo_after l [] a
  simp only [List.nil_append,List.length_nil,Nat.zero_add] at this
  unfold Go.Lib.compact
  rw [show (a :: l).length = 1 + l.length by simp; omega,this,show (1:Nat) = 0 + 1 from rfl,Go.Lib.compactUpTo_succ]
  simp only [compactZ,compactFrom_eq]
  simp [Go.Lib.compactUpTo,Go.Lib.keeps]
theorem afterZ_length:∀ (l:List Int) (a:Int),(afterZ a l).length≤l.length
 | [],_=>Nat.le_refl _
 | b :: l,a=>by
  simp only [afterZ]
  split
  ·have:=afterZ_length l a; simp; omega
  ·have:=afterZ_length l b; simp; omega
theorem compactZ_length (zs:List Int) :(compactZ zs).length≤zs.length:=by
 cases zs with
 | nil=>exact Nat.le_refl _
 | cons a l=>have:=afterZ_length l a; simp [compactZ,compactFrom_eq]; omega
section
variable {P:Program} {T:Tys} {B:Nat}
theorem sumOk_compactZ {f:FuncId} {fn:Func} {c:Code} (hf:P.funcs[f]? = some fn) (hname:(fn.name == "runtime.NumGoroutine") = false) (hbody:fn.body = some c)
  (hc:∀ (blk cap:Nat) (zs:List Int) (w:World),Holds (Value.int .i64) w blk 0 zs.toArray→zs.length≤9223372036854775807→zs.length≤cap →
   Calls P f #[.slice (some ⟨blk,0,none⟩) zs.length cap] w fun e w'=>e = .returned (.slice (some ⟨blk,0,none⟩) (Go.Lib.compact zs).length cap)∧∃ q,w' = putRow (Value.int .i64) (Go.Sort.ahead w q) blk 0 (Go.Lib.compact zs ++ List.replicate (zs.length - (Go.Lib.compact zs).length) 0).toArray)
  (h0:∀ a cap w,Calls P f #[.slice a 0 cap] w fun e w'=>e = .returned (.slice a 0 cap)∧w' = w) :SumOk P T B f sCompactZ:=by
 intro φ H w args args' v H' hH hl h
 unfold sCompactZ at h
 split at h
 rotate_left
 ·cases h
 rename_i b o n cap sz
 split at h
 rotate_left
 ·cases h
 rename_i l ho hsz hb
 have ho:o = 0:=Nat.eq_of_beq_eq_true ho
 have hsz:sz = 0:=Nat.eq_of_beq_eq_true hsz
 subst ho hsz
 split at h
 rotate_left
 ·cases h
 rename_i m hm
 split at h
 rotate_left
 ·cases h
 rename_i zs hzs hle hncap
 simp only [Option.some.injEq,Prod.mk.injEq] at h
 obtain ⟨rfl,rfl⟩:=h
 rw [intsOf_ok hzs] at hm
 obtain ⟨hn,hl',x,a,hx,rfl,ha,hcap,hlt,hHo⟩:=ints_row hH hl hb hm
 have hle:=Nat.le_of_ble_eq_true hle
 refine .inl ⟨run_callFunc hf hname hbody,?_⟩
 by_cases hn0:n = 0
 ·subst hn0
  have hz0:zs = []:=List.length_eq_zero_iff.1 hn.symm
  subst hz0
  refine callsIn_FR (r:=none) (n:=0) (m:=0) (callsIn_wide.2 (Calls.mono (h0 (some a) cap w) ?_))
  rintro e w' ⟨rfl,rfl⟩
  obtain ⟨v,r,e1,hv,e2⟩:=hl
  cases e1
  refine ⟨_,φ,rfl,hv,?_⟩
  have:=Sim.row (enc:=Value.int .i64) (d:=#[]) hH hx (new:=[]) hb rfl (by simp) (by simp) 0 #[]
  have hw:grow (putRow (Value.int .i64) (Go.Sort.ahead w' 0) x.c 0 #[]) #[] = w':=by
   rw [Go.Sort.grow_empty,Go.Sort.ahead_zero,putRow,Go.Sort.mapBlock_id]
   intro c e fr _
   apply Array.ext
   ·simp [putCells]
   ·intro i h1 h2
    simp [putCells]
  rw [hw] at this
  exact this
 ·have hae:a = ⟨x.c,0,none⟩:=by rcases ha with h | h; exact h; exact absurd h hn0
  subst hae
  have hcall:=hc x.c cap zs w hHo (by omega) (by omega)
  rw [← hn] at hcall
  refine callsIn_FR (r:=none) (n:=0) (m:=0) (callsIn_wide.2 (Calls.mono hcall ?_))
  rintro e w' ⟨rfl,q,rfl⟩
  rw [compact_eq]
  have hcl:=compactZ_length zs
  have hnew:intVals (compactZ zs) ++ zeros (Nat.sub n (compactZ zs).length) = intVals (compactZ zs ++ List.replicate (n - (compactZ zs).length) 0):=by
   rw [intVals_append,zeros_eq]; rfl
  rw [hnew]
  have hlen2:(compactZ zs ++ List.replicate (n - (compactZ zs).length) 0).length = n:=by simp; omega
  have hs0:x.s = 0:=by
   obtain ⟨arr,e,lo,hi,g1,g2,g3,g4,g5,g6,g7⟩:=hH.obj b _ x hb hx
   exact (g6 rfl rfl).2
  have:=Sim.row (enc:=Value.int .i64) (d:=(compactZ zs ++ List.replicate (n - (compactZ zs).length) 0).toArray) hH hx (new:=intVals (compactZ zs ++ List.replicate (n - (compactZ zs).length) 0)) hb (by simp [intVals_length]) (by rw [intVals_length,hlen2]; have:=(lsub_eq hm).2; omega) (fun j a ha=>int_get ha) q #[]
  rw [intVals_length,hlen2] at this
  rw [Go.Sort.grow_empty] at this
  refine ⟨_,φ,rfl,⟨x,_,cap,hx,rfl,by omega,Nat.le_refl _,.inl ⟨rfl,rfl,.inl (by rw [hs0])⟩⟩,this⟩
end
end Go.Am
end

section
namespace Go.Am
open Go Go.RowKit Go.Proofs
open Go.Sort (grow putRow mapBlock putCells Holds)
open Go.Lib Go.Sort Go.Shelf
abbrev Trp:=Int × Int × Bool
def tripsOf:List AVal→Option (List Trp)
 | []=>some []
 | .int .i64 u :: .int .i64 v :: .bool g :: l=>match tripsOf l with
  | some m=>some ((u,v,g) :: m)
  | none=>none
 | _ :: _=>none
def tripVals:List Trp→List AVal
 | []=>[]
 | (u,v,g) :: l=>.int .i64 u :: .int .i64 v :: .bool g :: tripVals l
def ltT (a b:Trp) :Bool:=match ltI a.1 b.1 with
 | true=>true
 | false=>match eqI a.1 b.1 with
  | true=>ltI a.2.1 b.2.1
  | false=>false
def insT (a:Trp) :List Trp→List Trp
 | []=>[a]
 | b :: l=>match ltT b a with
  | true=>b :: insT a l
  | false=>a :: b :: l
def sortT:List Trp→List Trp
 | []=>[]
 | a :: l=>insT a (sortT l)
def risT:List Trp→Bool
 | []=>true
 | [_]=>true
 | a :: b :: l=>match ltT a b with
  | true=>risT (b :: l)
  | false=>false
def sSortT (kf:FuncId) :List AVal→AHeap→ARes
 | [.sl b o n cap sz,.func g [] []],h=>match Nat.beq g kf,Nat.beq o 0,Nat.beq sz 0,PT.get b h.t with
  | true,true,true,some (.cells l false false)=>match lsub l 0 (Nat.mul n 3) with
   | some m=>match tripsOf m,Nat.ble n 1000000000 with
    | some ts,true=>match sortT ts with
     | ss=>match risT ss with
      | true=>some (.tup [],h.upd b (.cells (tripVals ss ++ l.drop (Nat.mul n 3)) false false))
      | false=>none
    | _,_=>none
   | none=>none
  | _,_,_,_=>none
 | _,_=>none
theorem tripsOf_ok:∀ {l:List AVal} {ts:List Trp},tripsOf l = some ts→l = tripVals ts
 | [],ts,h=>by simp [tripsOf] at h; subst h; rfl
 | a :: l,ts,h=>by
  unfold tripsOf at h
  split at h
  ·rename_i e; cases e
  ·rename_i u v g l' e
   cases e
   split at h
   ·rename_i m hm
    cases h
    rw [tripsOf_ok hm]; rfl
   ·cases h
  ·cases h
termination_by l=>l.length
decreasing_by all_goals (subst_vars; simp; omega)
theorem tripsOf_vals:∀ ts,tripsOf (tripVals ts) = some ts
 | []=>rfl
 | (u,v,g) :: l=>by simp [tripVals,tripsOf,tripsOf_vals l]
theorem tripVals_length:∀ ts:List Trp,(tripVals ts).length = ts.length * 3
 | []=>rfl
 | (u,v,g) :: l=>by simp only [tripVals,List.length_cons,tripVals_length l]; omega
theorem flat_tripVals:∀ ts:List Trp,(tripVals ts).all flatV = true
 | []=>rfl
 | (u,v,g) :: l=>by simp [tripVals,flatV,flat_tripVals l]
def keyT (t:Trp) :Int × Int:=(t.1,t.2.1)
def LtK (a b:Int × Int) :Prop:=a.1 < b.1∨a.1 = b.1∧a.2 < b.2
theorem ltT_iff (a b:Trp) :ltT a b = true ↔ LtK (keyT a) (keyT b):=by
 unfold ltT LtK keyT
 rw [ltI_eq,eqI_eq,ltI_eq]
 by_cases h1:a.1 < b.1
 ·simp [h1]
 ·by_cases h2:a.1 = b.1
  ·simp [h2]
  ·have:(a.1 == b.1) = false:=by simpa using h2
   simp [h1,h2,this]
theorem LtK.trans {a b c:Int × Int} (h:LtK a b) (k:LtK b c) :LtK a c:=by
 unfold LtK at *
 omega
instance (a b:Int × Int) :Decidable (LtK a b):=by unfold LtK; infer_instance
theorem LtK.irrefl (a:Int × Int) :¬ LtK a a:=by
 unfold LtK
 omega
theorem LtK.total (a b:Int × Int) :LtK a b∨a = b∨LtK b a:=by
 obtain ⟨a1,a2⟩:=a
 obtain ⟨b1,b2⟩:=b
 unfold LtK
 simp only [Prod.mk.injEq]
 omega
theorem insT_perm (a:Trp) :∀ l,(insT a l).Perm (a :: l)
 | []=>List.Perm.refl _
 | b :: l=>by
  simp only [insT]
  split
  ·exact ((insT_perm a l).cons b).trans (List.Perm.swap _ _ _)
  ·exact List.Perm.refl _
theorem sortT_perm:∀ l,(sortT l).Perm l
 | []=>List.Perm.refl _
 | a :: l=>(insT_perm a (sortT l)).trans ((sortT_perm l).cons a)
theorem risT_pair:∀ {l:List Trp},risT l = true→l.Pairwise (fun a b=>LtK (keyT a) (keyT b))
 | [],_=>List.Pairwise.nil
 | [a],_=>by simp
 | a :: b :: l,h=>by
  simp only [risT] at h
  split at h
  ·rename_i h1
   have h1:=(ltT_iff a b).1 h1
   have h2:=risT_pair h
   refine List.pairwise_cons.2 ⟨fun y hy=>?_,h2⟩
   rcases List.mem_cons.1 hy with rfl | hy
   ·exact h1
   ·exact h1.trans ((List.pairwise_cons.1 h2).1 y hy)
  ·cases h
theorem risT_of:∀ {l:List Trp},l.Pairwise (fun a b=>LtK (keyT a) (keyT b))→risT l = true
 | [],_=>rfl
 | [a],_=>rfl
 | a :: b :: l,h=>by
  obtain ⟨h1,h2⟩:=List.pairwise_cons.1 h
  have:=(ltT_iff a b).2 (h1 b (by simp))
  simp only [risT,this]
  exact risT_of h2
theorem insT_sorted (a:Trp) :∀ {l:List Trp},l.Pairwise (fun a b=>LtK (keyT a) (keyT b))→(∀ b ∈ l,keyT a ≠ keyT b)→(insT a l).Pairwise (fun a b=>LtK (keyT a) (keyT b))
 | [],_,_=>by simp [insT]
 | b :: l,h,hd=>by
  obtain ⟨h1,h2⟩:=List.pairwise_cons.1 h
  simp only [insT]
  split
  ·rename_i hlt
   have hlt:=(ltT_iff b a).1 hlt
   refine List.pairwise_cons.2 ⟨fun y hy=>?_,insT_sorted a h2 fun b hb=>hd b (List.mem_cons_of_mem _ hb)⟩
   rcases List.mem_cons.1 ((insT_perm a l).mem_iff.1 hy) with rfl | hy
   ·exact hlt
   ·exact h1 y hy
  ·rename_i hlt
   have hlt:¬ LtK (keyT b) (keyT a):=fun hh=>by rw [(ltT_iff b a).2 hh] at hlt; cases hlt
   have hab:LtK (keyT a) (keyT b):=by
    rcases LtK.total (keyT a) (keyT b) with h | h | h
    ·exact h
    ·exact absurd h (hd b (by simp))
    ·exact absurd h hlt
   refine List.pairwise_cons.2 ⟨fun y hy=>?_,h⟩
   rcases List.mem_cons.1 hy with rfl | hy
   ·exact hab
   ·exact hab.trans (h1 y hy)
theorem sortT_sorted:∀ {l:List Trp},(l.map keyT).Nodup→(sortT l).Pairwise (fun a b=>LtK (keyT a) (keyT b))
 | [],_=>List.Pairwise.nil
 | a :: l,h=>by
  simp only [List.map_cons,List.nodup_cons] at h
  refine insT_sorted a (sortT_sorted h.2) fun b hb e=>h.1 ?_
  rw [e]
  exact List.mem_map.2 ⟨b,(sortT_perm l).mem_iff.1 hb,rfl⟩
theorem nodup_of_rising {l:List Trp} (h:l.Pairwise (fun a b=>LtK (keyT a) (keyT b))) :(l.map keyT).Nodup:=by
 unfold List.Nodup
 rw [List.pairwise_map]
 refine h.imp ?_
 intro a b hab
 show keyT a ≠ keyT b
 intro e
 rw [e] at hab
 exact LtK.irrefl _ hab
def orZ (a b:Int) :Int:=if a = 0 then b else a
def cmpK (x y:Int × Int) :Int:=orZ (Go.Lib.compareInt x.1 y.1) (Go.Lib.compareInt x.2 y.2)
theorem ltOf_cmpK (x y:Int × Int) :ltOf cmpK x y = decide (LtK x y):=by
 unfold ltOf cmpK orZ Go.Lib.compareInt LtK
 by_cases h1:x.1 < y.1
 ·simp [h1]
 ·by_cases h2:y.1 < x.1
  ·simp [h1,h2]; omega
  ·have:x.1 = y.1:=by omega
   by_cases h3:x.2 < y.2
   ·simp [this,h3]
   ·by_cases h4:y.2 < x.2 <;> simp [this,h3,h4]
def encT (f:Int→Int→Bool) (k:Int × Int) :List Value:=[.int .i64 k.1,.int .i64 k.2,.bool (f k.1 k.2)]
def flagOf (ts:List Trp) (u v:Int) :Bool:=match ts.find? (fun t=>decide (keyT t = (u,v))) with
 | some t=>t.2.2
 | none=>false
theorem flagOf_mem {ts:List Trp} (h:(ts.map keyT).Nodup) {t:Trp} (ht:t ∈ ts) :flagOf ts t.1 t.2.1 = t.2.2:=by
 unfold flagOf
 cases hf:ts.find? (fun t'=>decide (keyT t' = (t.1,t.2.1))) with
 | none =>
  have:=List.find?_eq_none.1 hf t ht
  simp [keyT] at this
 | some t' =>
  have h1:=List.find?_some hf
  have h2:=List.mem_of_find?_eq_some hf
  have h1:keyT t' = keyT t:=of_decide_eq_true h1
  have:t' = t:=by
   rcases Nat.lt_trichotomy (ts.idxOf t') (ts.idxOf t) with hlt | heq | hgt
   ·exfalso
    have hh:=(List.pairwise_iff_getElem.1 h) (ts.idxOf t') (ts.idxOf t) (by simpa using List.idxOf_lt_length_iff.2 h2) (by simpa using List.idxOf_lt_length_iff.2 ht) hlt
    simp [h1] at hh
   ·have e1:=List.getElem_idxOf (List.idxOf_lt_length_iff.2 h2)
    have e2:=List.getElem_idxOf (List.idxOf_lt_length_iff.2 ht)
    rw [← e1,← e2]
    congr 1
   ·exfalso
    have hh:=(List.pairwise_iff_getElem.1 h) (ts.idxOf t) (ts.idxOf t') (by simpa using List.idxOf_lt_length_iff.2 ht) (by simpa using List.idxOf_lt_length_iff.2 h2) hgt
    simp [h1] at hh
  rw [this]
theorem tripVals_get:∀ {ts:List Trp} {j:Nat} {a:AVal},(tripVals ts)[j]? = some a→∃ t,ts[j / 3]? = some t∧[AVal.int .i64 t.1,.int .i64 t.2.1,.bool t.2.2][j % 3]? = some a
 | [],j,a,h=>by simp [tripVals] at h
 | (u,v,g) :: l,j,a,h=>by
  match j,h with
  | 0,h=>exact ⟨_,rfl,h⟩
  | 1,h=>exact ⟨_,rfl,h⟩
  | 2,h=>exact ⟨_,rfl,h⟩
  | j + 3,h =>
   obtain ⟨t,h1,h2⟩:=tripVals_get (ts:=l) (j:=j) (a:=a) (by simpa [tripVals] using h)
   refine ⟨t,?_,?_⟩
   ·rw [show (j + 3) / 3 = j / 3 + 1 by omega]
    simpa using h1
   ·rw [show (j + 3) % 3 = j % 3 by omega]
    exact h2
section
variable {P:Program} {T:Tys} {B:Nat} {φ:Emb}
theorem trip_cell {f:Int→Int→Bool} {ts:List Trp} (hf:∀ t ∈ ts,f t.1 t.2.1 = t.2.2) {j:Nat} {a:AVal} (h:(tripVals ts)[j]? = some a) (v:Value) :VRel φ a v ↔ v = (flatK (encT f) 3 (ts.map keyT).toArray)[j]!:=by
 have hj:j < ts.length * 3:=by
  have:=(List.getElem?_eq_some_iff.1 h).1
  rwa [tripVals_length] at this
 obtain ⟨t,h1,h2⟩:=tripVals_get h
 obtain ⟨hlt,ht⟩:=List.getElem?_eq_some_iff.1 h1
 rw [get_flatK _ _ _ _ (by simpa using hj)]
 have hk:(ts.map keyT).toArray[j / 3]! = keyT t:=by
  rw [getElem!_pos _ _ (by simpa using hlt)]
  simp [ht]
 rw [hk]
 have hff:=hf t (List.mem_of_getElem? h1)
 have hr:j % 3 = 0∨j % 3 = 1∨j % 3 = 2:=by omega
 rcases hr with hr | hr | hr <;> rw [hr] at h2 ⊢ <;> simp at h2 <;> subst h2 <;> simp [encT,keyT,VRel,hff]
theorem sumOk_sortT {fid kf:FuncId} {fn:Func} {c:Code} (hf:P.funcs[fid]? = some fn) (hname:(fn.name == "runtime.NumGoroutine") = false) (hbody:fn.body = some c)
  (hc:∀ (f:Int→Int→Bool) (blk cap:Nat) (d:Array (Int × Int)) (w:World),HoldsK (encT f) 3 w blk 0 d→blk < w.heap.size→d.size < 4611686018427387904 →
   Calls P fid #[.slice (some ⟨blk,0,none⟩) d.size cap,.func (.func kf) #[] #[]] w fun e w'=>e = .returned (.tuple #[])∧∃ n os,w' = sortWorldK (encT f) 3 w blk 0 n (d.toList.mergeSort fun x y=>!(ltOf cmpK) y x).toArray os)
  (h0:∀ p cap fv w,Calls P fid #[.slice p 0 cap,fv] w fun e w'=>e = .returned (.tuple #[])∧w' = w) :SumOk P T B fid (sSortT kf):=by
 intro φ H w args args' v H' hH hl h
 unfold sSortT at h
 split at h
 rotate_left
 ·cases h
 rename_i b o n cap sz g
 split at h
 rotate_left
 ·cases h
 rename_i l hg ho hsz hb
 have hg:g = kf:=Nat.eq_of_beq_eq_true hg
 have ho:o = 0:=Nat.eq_of_beq_eq_true ho
 have hsz:sz = 0:=Nat.eq_of_beq_eq_true hsz
 subst hg ho hsz
 split at h
 rotate_left
 ·cases h
 rename_i m hm
 split at h
 rotate_left
 ·cases h
 rename_i ts hts hle
 simp only at h
 split at h
 rotate_left
 ·cases h
 rename_i hris
 cases h
 have hle:=Nat.le_of_ble_eq_true hle
 obtain ⟨e3,e4⟩:=lsub_eq hm
 rw [tripsOf_ok hts] at e3
 simp only [List.drop_zero] at e3
 have hn3:Nat.mul n 3 = n * 3:=rfl
 rw [hn3] at e3 e4 hm ⊢
 have hn:n = ts.length:=by
  have:=congrArg List.length e3
  rw [tripVals_length,List.length_take] at this
  omega
 have hpair:=risT_pair hris
 have hnd0:=nodup_of_rising hpair
 have hp:=sortT_perm ts
 have hnd:(ts.map keyT).Nodup:=(hp.map keyT).nodup_iff.1 hnd0
 have hfl:∀ t ∈ ts,flagOf ts t.1 t.2.1 = t.2.2:=fun t ht=>flagOf_mem hnd ht
 have hfl2:∀ t ∈ sortT ts,flagOf ts t.1 t.2.1 = t.2.2:=fun t ht=>hfl t (hp.mem_iff.1 ht)
 obtain ⟨v1,r,e1,⟨x,a,cap',hx,rfl,h1,h2,h3⟩,v2,r2,e2,⟨ga,gc,rfl,ha1,ha2⟩,e5⟩:=hl
 have e5:r2 = []:=e5
 subst e5 e2
 have hga:ga = #[]:=Array.toList_eq_nil_iff.1 ha1
 have hgc:gc = #[]:=Array.toList_eq_nil_iff.1 ha2
 subst hga hgc
 have hargs:args' = #[.slice (some a) n cap',.func (.func g) #[] #[]]:=Array.ext' e1
 subst hargs
 have hl':l = tripVals ts ++ l.drop (n * 3):=by
  conv=>lhs; rw [← List.take_append_drop (n * 3) l,← e3]
 have hb':PT.get b H.t = some (.cells (tripVals ts ++ l.drop (n * 3)) false false):=by rw [← hl']; exact hb
 obtain ⟨hHo,hs0⟩:=row_holds (enc:=id) (d:=flatK (encT (flagOf ts)) 3 (ts.map keyT).toArray) hH hx hb' (by rw [tripVals_length,size_flatK]; simp) (fun j a v ha hv=>(trip_cell hfl ha v).1 hv)
 have hsimp:=fun (q:Nat) (os:Array Obj)=>Sim.row (enc:=id) (d:=flatK (encT (flagOf ts)) 3 ((sortT ts).map keyT).toArray) hH hx (new:=tripVals (sortT ts)) hb (by rw [tripVals_length,size_flatK]; simp) (by rw [tripVals_length,hp.length_eq]; omega) (fun j a ha=>(trip_cell hfl2 ha _).2 rfl) q os
 rw [tripVals_length,hp.length_eq,← hn] at hsimp
 refine .inl ⟨run_callFunc hf hname hbody,?_⟩
 by_cases hn0:n = 0
 ·subst hn0
  have hz0:ts = []:=List.length_eq_zero_iff.1 hn.symm
  subst hz0
  refine callsIn_FR (r:=none) (n:=0) (m:=0) (callsIn_wide.2 (Calls.mono (h0 (some a) cap' _ w) ?_))
  rintro e w' ⟨rfl,rfl⟩
  refine ⟨_,φ,rfl,⟨#[],rfl,rfl⟩,?_⟩
  have:=hsimp 0 #[]
  have hw:grow (putRow id (Go.Sort.ahead w' 0) x.c 0 (flatK (encT (flagOf [])) 3 ((sortT []).map keyT).toArray)) #[] = w':=by
   rw [Go.Sort.grow_empty,Go.Sort.ahead_zero,putRow,Go.Sort.mapBlock_id]
   intro c e fr _
   apply Array.ext
   ·simp [putCells]
   ·intro i h1 h2
    simp [putCells,flatK,sortT]
  rw [hw] at this
  exact this
 ·have hae:a = ⟨x.c,0,none⟩:=by
   rcases h3 with ⟨_,rfl,h3⟩ | ⟨h,_⟩ | ⟨h,_⟩
   ·rcases h3 with h3 | h3
    ·rw [hs0] at h3; exact h3
    ·exact absurd (show n = 0 by omega) hn0
   ·exact absurd rfl h
   ·exact absurd rfl h
  subst hae
  have hcall:=hc (flagOf ts) x.c cap' (ts.map keyT).toArray w hHo (hH.low b x hx).2 (by simp; omega)
  rw [show (ts.map keyT).toArray.size = n by simp [hn]] at hcall
  refine callsIn_FR (r:=none) (n:=0) (m:=0) (callsIn_wide.2 (Calls.mono hcall ?_))
  rintro e w' ⟨rfl,q,os,rfl⟩
  have hsort:((ts.map keyT).toArray.toList.mergeSort fun x y=>!(ltOf cmpK) y x) = (sortT ts).map keyT:=by
   have hle:(fun x y=>!(ltOf cmpK) y x) = fun x y:Int × Int=>!decide (LtK y x):=by
    funext x y
    rw [ltOf_cmpK]
   rw [hle]
   have h1:((ts.map keyT).mergeSort fun x y=>!decide (LtK y x)).Perm ((sortT ts).map keyT):=(List.mergeSort_perm _ _).trans (hp.map keyT).symm
   refine List.Perm.eq_of_pairwise (le:=fun a b=>(!decide (LtK b a)) = true) (fun a b _ _ g1 g2=>?_) (List.pairwise_mergeSort (fun a b c g1 g2=>?_) (fun a b=>?_) _) ?_ h1
   ·simp only [Bool.not_eq_true',decide_eq_false_iff_not] at g1 g2
    rcases LtK.total a b with h | h | h
    ·exact absurd h g2
    ·exact h
    ·exact absurd h g1
   ·simp only [Bool.not_eq_true',decide_eq_false_iff_not] at g1 g2 ⊢
    unfold LtK at *
    omega
   ·simp only [Bool.or_eq_true,Bool.not_eq_true',decide_eq_false_iff_not]
    unfold LtK
    omega
   ·rw [List.pairwise_map]
    refine hpair.imp fun hab=>?_
    simp only [Bool.not_eq_true',decide_eq_false_iff_not]
    unfold LtK at *
    omega
  rw [hsort]
  exact ⟨_,φ,rfl,⟨#[],rfl,rfl⟩,hsimp q os⟩
end
end Go.Am
end

section
namespace Go.Am
open Go
abbrev cell3 (t:Trp) :List AVal:=[.int .i64 t.1,.int .i64 t.2.1,.bool t.2.2]
theorem trip_sub:∀ (ts:List Trp) (i:Nat) (h:i < ts.length),((tripVals ts).drop (i * 3)).take 3 = cell3 ts[i]
 | (u,v,g) :: l,0,_=>rfl
 | (u,v,g) :: l,i + 1,h=>by
  have:=trip_sub l i (by simpa using h)
  rw [show (i + 1) * 3 = i * 3 + 3 by omega]
  simpa [tripVals] using this
theorem tripVals_append:∀ (a b:List Trp),tripVals (a ++ b) = tripVals a ++ tripVals b
 | [],b=>rfl
 | (u,v,g) :: a,b=>by simp [tripVals,tripVals_append a b]
def TReads (n:Nat) (H:AHeap) (v:AVal) (ts:List Trp) :Prop :=
 (v = .snil∧ts = [])∨∃ b o cap sz,v = .sl b o ts.length cap sz∧hloadN H b o (ts.length * 3) = some (tripVals ts)∧b.toNat < n∧(sz = 0∨sz = 3)∧ts.length≤cap
theorem TReads.keep {n m:Nat} {H H':AHeap} {v:AVal} {l:List Trp} (h:TReads n H v l) (k:Keep m H H') (hm:n≤m) :TReads n H' v l:=by
 rcases h with h | ⟨b,o,cap,sz,e,h,hb⟩
 ·exact .inl h
 ·refine .inr ⟨b,o,cap,sz,e,?_,hb⟩
  unfold hloadN at h ⊢
  rw [k.get b (by omega)]
  exact h
theorem TReads.mono {n m:Nat} {H:AHeap} {v:AVal} {l:List Trp} (h:TReads n H v l) (hm:n≤m) :TReads m H v l:=by
 rcases h with h | ⟨b,o,cap,sz,e,h,hb,hr⟩
 ·exact .inl h
 ·exact .inr ⟨b,o,cap,sz,e,h,by omega,hr⟩
theorem TReads.fLen {n:Nat} {H:AHeap} {v:AVal} {l:List Trp} (h:TReads n H v l) :fLen H 1 v = some (.int .i64 (.ofNat l.length)):=by
 rcases h with ⟨rfl,rfl⟩ | ⟨b,o,cap,sz,rfl,h⟩ <;> rfl
theorem hloadN_sub {H:AHeap} {b:Pos} {o n:Nat} {l:List AVal} (h:hloadN H b o n = some l) {i k:Nat} (hi:i + k≤n) :hloadN H b (o + i) k = some ((l.drop i).take k):=by
 unfold hloadN at h ⊢
 split at h
 ·rename_i c op ro hb
  obtain ⟨e1,e2⟩:=lsub_eq h
  rw [lsub_of (by omega),e1,List.drop_take,List.drop_drop,List.take_take,Nat.min_eq_left (by omega)]
 ·cases h
theorem TReads.fIdx {n:Nat} {H:AHeap} {v:AVal} {l:List Trp} (h:TReads n H v l) {i:Nat} (hi:i < l.length) :∃ b o,fIdxS 3 v (.int .i64 (.ofNat i)) = some (.ptr b o)∧hloadN H b o 3 = some (cell3 l[i])∧b.toNat < n:=by
 rcases h with ⟨rfl,rfl⟩ | ⟨b,o,cap,sz,rfl,h,hb,_⟩
 ·simp at hi
 ·refine ⟨b,o + i * 3,?_,?_,hb⟩
  ·simp only [fIdxS,natOf,blt_t hi]
   rfl
  ·rw [hloadN_sub h (by omega),trip_sub l i hi]
theorem append_troom {H:AHeap} {b:Pos} {ts:List Trp} {rest:List AVal} {x:AVal} {cap by':Nat} {t:Trp} (hb:PT.get b H.t = some (.cells (tripVals ts ++ rest) false false)) (hc:ts.length < cap) (hr:3≤rest.length) (hx:srcCells H 3 x = some (1,cell3 t)) :
  appendA H 3 by' (.sl b 0 ts.length cap 0) x = some (.sl b 0 (ts.length + 1) cap 0,H.upd b (.cells (tripVals (ts ++ [t]) ++ rest.drop 3) false false)):=by
 unfold appendA
 rw [hx]
 have e1:Nat.ble (Nat.add ts.length 1) cap = true:=ble_t hc
 have e2:hstoreN H b (Nat.add 0 (Nat.mul ts.length 3)) (cell3 t) = some (H.upd b (.cells (tripVals (ts ++ [t]) ++ rest.drop 3) false false)):=by
  unfold hstoreN
  rw [hb,show Nat.add 0 (Nat.mul ts.length 3) = ts.length * 3 by show 0 + ts.length * 3 = _; omega]
  have hs:allScal (cell3 t) = true:=rfl
  simp only [hs]
  have hl:=tripVals_length ts
  rw [lput_of _ _ _ (by simp [hl]; omega)]
  have h1:List.take (ts.length * 3) (tripVals ts ++ rest) = tripVals ts:=by rw [← hl]; simp
  have h2:List.drop (ts.length * 3 + (cell3 t).length) (tripVals ts ++ rest) = rest.drop 3:=by
   rw [← hl,List.drop_append]
   simp
  rw [h1,h2,tripVals_append]
  simp [tripVals]
 simp only [e1,e2]
end Go.Am
end
