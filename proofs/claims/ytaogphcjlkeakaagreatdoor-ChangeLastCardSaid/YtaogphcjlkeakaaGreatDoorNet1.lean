/- Part of the proof: AmL1, AmNet. -/
import Derived.Test.YtaogphcjlkeakaaGreatDoorCode
import Derived.Test.YtaogphcjlkeakaaGreatDoorAm28
import Derived.Test.YtaogphcjlkeakaaGreatDoorAm27
set_option linter.unusedSimpArgs false
set_option linter.unusedVariables false
section
namespace Go.Am
open Go
structure CodeOk (E:Env) :Prop where
 s:∀ p,(Pos.beq p (Pos.ofNat 28) || Pos.beq p (Pos.ofNat 78) || Pos.beq p (Pos.ofNat 80)) = false→PT.get p E.sums = none
 f27:PT.get (Pos.ofNat 27) E.fns = some g27
 f79:PT.get (Pos.ofNat 79) E.fns = some g79
def minI (a b:Int) :Int:=match ltI b a with
 | true=>b
 | false=>a
def maxI (a b:Int) :Int:=match ltI a b with
 | true=>b
 | false=>a
def normT (t:Trp) :Trp:=(minI t.1 t.2.1,maxI t.1 t.2.1,t.2.2)
def putT (t:Trp) :List Trp→List Trp
 | []=>[t]
 | x :: l=>match eqI t.1 x.1 && eqI t.2.1 x.2.1 with
  | true=>t :: l
  | false=>x :: putT t l
def lastT (m:List Trp) :List Trp→List Trp
 | []=>m
 | t :: l=>match eqI t.1 t.2.1 with
  | true=>lastT m l
  | false=>lastT (putT (normT t) m) l
theorem lastT_snoc:∀ (l:List Trp) (m:List Trp) (t:Trp),lastT m (l ++ [t]) = (match eqI t.1 t.2.1 with | true=>lastT m l | false=>putT (normT t) (lastT m l))
 | [],m,t=>by simp only [List.nil_append,lastT]
 | x :: l,m,t=>by
  simp only [List.cons_append,lastT]
  cases eqI x.1 x.2.1 with
  | true=>simp only; exact lastT_snoc l m t
  | false=>simp only; exact lastT_snoc l _ t
def entT (t:Trp) :AVal × AVal:=(.agg [.int .i64 t.1,.int .i64 t.2.1],.bool t.2.2)
theorem eqS_ent (H:AHeap) (a b:Trp) :eqS H .pair (entT a).1 (entT b).1 = some (eqI a.1 b.1 && eqI a.2.1 b.2.1):=by
 simp only [entT,eqS,kbeq_eq.2 rfl]
theorem eqT_iff (a b:Trp) :(eqI a.1 b.1 && eqI a.2.1 b.2.1) = true ↔ keyT a = keyT b:=by
 rw [eqI_eq,eqI_eq]
 simp [keyT]
theorem findKey_none {H:AHeap} {t:Trp} :∀ {m:List Trp},(∀ x ∈ m,keyT t ≠ keyT x)→findKey H .pair (entT t).1 (m.map entT) = some none
 | [],_=>rfl
 | x :: m,h=>by
  have he:(eqI t.1 x.1 && eqI t.2.1 x.2.1) = false:=by
   cases hb:(eqI t.1 x.1 && eqI t.2.1 x.2.1) with
   | false=>rfl
   | true=>exact absurd ((eqT_iff t x).1 hb) (h x (by simp))
  simp only [List.map_cons,findKey]
  rw [show eqS H .pair (entT t).1 (entT x).1 = some false by rw [eqS_ent,he]]
  exact findKey_none fun y hy=>h y (by simp [hy])
theorem putKey_ent {H:AHeap} {t:Trp} :∀ {m:List Trp},(m.map keyT).Nodup→putKey H .pair (entT t).1 (entT t).2 (m.map entT) = some ((putT t m).map entT)
 | [],_=>rfl
 | x :: m,h=>by
  simp only [List.map_cons,List.nodup_cons] at h
  simp only [List.map_cons,putKey,putT]
  rw [eqS_ent]
  cases hb:(eqI t.1 x.1 && eqI t.2.1 x.2.1) with
  | true =>
   have hk:=(eqT_iff t x).1 hb
   simp only
   rw [findKey_none (fun y hy e=>h.1 (by rw [← hk,e]; exact List.mem_map.2 ⟨y,hy,rfl⟩))]
   rfl
  | false =>
   simp only
   rw [putKey_ent h.2]
   rfl
theorem putT_keys {t:Trp} :∀ {m:List Trp} {k:Int × Int},k ∈ (putT t m).map keyT ↔ k = keyT t∨k ∈ m.map keyT
 | [],k=>by simp [putT]
 | x :: m,k=>by
  simp only [putT]
  cases hb:(eqI t.1 x.1 && eqI t.2.1 x.2.1) with
  | true =>
   have hk:=(eqT_iff t x).1 hb
   simp only [List.map_cons,List.mem_cons,← hk]
   constructor
   ·rintro (h | h)
    ·exact .inl h
    ·exact .inr (.inr h)
   ·rintro (h | h | h)
    ·exact .inl h
    ·exact .inl h
    ·exact .inr h
  | false =>
   simp only [List.map_cons,List.mem_cons,putT_keys (m:=m)]
   constructor
   ·rintro (h | h | h)
    ·exact .inr (.inl h)
    ·exact .inl h
    ·exact .inr (.inr h)
   ·rintro (h | h | h)
    ·exact .inr (.inl h)
    ·exact .inl h
    ·exact .inr (.inr h)
theorem putT_nodup {t:Trp} :∀ {m:List Trp},(m.map keyT).Nodup→((putT t m).map keyT).Nodup
 | [],_=>by simp [putT]
 | x :: m,h=>by
  simp only [List.map_cons,List.nodup_cons] at h
  simp only [putT]
  cases hb:(eqI t.1 x.1 && eqI t.2.1 x.2.1) with
  | true =>
   have hk:=(eqT_iff t x).1 hb
   simp only [List.map_cons,List.nodup_cons,hk]
   exact h
  | false =>
   simp only [List.map_cons,List.nodup_cons]
   refine ⟨fun hm=>?_,putT_nodup h.2⟩
   rcases putT_keys.1 hm with e | hm
   ·rw [(eqT_iff t x).2 e.symm] at hb; cases hb
   ·exact h.1 hm
theorem lastT_nodup:∀ {l m:List Trp},(m.map keyT).Nodup→((lastT m l).map keyT).Nodup
 | [],m,h=>h
 | t :: l,m,h=>by
  simp only [lastT]
  cases eqI t.1 t.2.1 with
  | true=>exact lastT_nodup h
  | false=>exact lastT_nodup (putT_nodup h)
theorem mm_min (a b:Int) :mmA false (.int .i64 a) [.int .i64 b] = some (.int .i64 (minI a b)):=by
 simp only [mmA,kbeq_eq.2 rfl,minI]
 cases ltI b a <;> rfl
theorem mm_max (a b:Int) :mmA true (.int .i64 a) [.int .i64 b] = some (.int .i64 (maxI a b)):=by
 simp only [mmA,kbeq_eq.2 rfl,maxI]
 cases ltI a b <;> rfl
structure Var3 (H H':AHeap) (b:Pos) (t:Trp) :Prop where
 at':PT.get b H'.t = some (.cells (cell3 t) false false)
 new:H.nx.toNat≤b.toNat
 low:b.toNat < H'.nx.toNat
 keep:Keep H.nx.toNat H H'
theorem var3 {H:AHeap} (t:Trp) :∃ H',hstoreN (H.new (.cells [.int .i64 (.ofNat 0),.int .i64 (.ofNat 0),.bool false] false false)).2 H.nx 0 (cell3 t) = some H'∧Var3 H H' H.nx t∧H'.nx = H.nx.succ:=by
 refine ⟨(H.new (.cells [.int .i64 (.ofNat 0),.int .i64 (.ofNat 0),.bool false] false false)).2.upd H.nx (.cells (cell3 t) false false),?_,⟨get_upd,Nat.le_refl _,?_,keep_new.trans (keep_upd (Nat.le_refl _))⟩,rfl⟩
 ·unfold hstoreN
  rw [get_new]
  rfl
 ·show H.nx.toNat < H.nx.succ.toNat
  rw [Pos.toNat_succ]; omega
theorem Var3.l0 {H H':AHeap} {b:Pos} {t:Trp} (h:Var3 H H' b t) :hload H' b (0 + 0) = some (.int .i64 t.1):=by rw [hload_at h.at' (by simp)]; rfl
theorem Var3.l1 {H H':AHeap} {b:Pos} {t:Trp} (h:Var3 H H' b t) :hload H' b (0 + 1) = some (.int .i64 t.2.1):=by rw [hload_at h.at' (by simp)]; rfl
theorem Var3.l2 {H H':AHeap} {b:Pos} {t:Trp} (h:Var3 H H' b t) :hload H' b (0 + 2) = some (.bool t.2.2):=by rw [hload_at h.at' (by simp)]; rfl
section
variable {E:Env}
theorem last_loop {N:Nat} {H0:AHeap} {x:AVal} {ts:List Trp} (hx:TReads N H0 x ts) (hN:N≤H0.nx.toNat) (hl:ts.length≤1073741824) {m:Pos} {ro:Option Pos} :
  ∀ (n:Nat) (t:PT AVal) (H:AHeap),(∃ i,i + n = ts.length∧tget t (Pos.ofNat 7) = x∧tget t (Pos.ofNat 8) = .int .i64 (.ofNat ts.length)∧tget t (Pos.ofNat 9) = .int .i64 (.ofNat i)∧tget t (Pos.ofNat 3) = .map m∧PT.get m H.t = some (.map ((lastT [] (ts.take i)).map entT))∧N≤m.toNat∧m.toNat < H.nx.toNat∧Keep N H0 H) →
  W E (.loop g27l8) ro ⟨t,[]⟩ H (fun e a H'=>e = .exit 0∧a.ds = []∧tget a.t (Pos.ofNat 3) = .map m∧PT.get m H'.t = some (.map ((lastT [] ts).map entT))∧m.toNat < H'.nx.toNat∧Keep N H0 H'):=by
 refine W.loop_inv (Q:=fun e a H'=>e = .exit 0∧a.ds = []∧tget a.t (Pos.ofNat 3) = .map m∧PT.get m H'.t = some (.map ((lastT [] ts).map entT))∧m.toNat < H'.nx.toNat∧Keep N H0 H') _ ?_
 rintro n t H ⟨i,hi,h7,h8,h9,h3,hm,hm0,hm1,hk⟩
 refine W.seq (W.region ?_)
 simp (maxDischargeDepth:=9) only [auW,auC,auT,lget,BEq.rfl,beq_self_eq_true,decide_true,decide_false,reduceCtorEq,Nat.reduceLT,Nat.reduceEqDiff,↓reduceIte,g27r3,h8,h9]
 refine W.seq (W.cond_if (p:=i < ts.length) (by simp [AOpnd.ev,tget_puts]) (fun hlt=>W.skip ?_) (fun hge=>W.exit ?_))
 rotate_left
 ·refine ⟨by trivial,by trivial,?_,?_,hm1,hk⟩
  ·simp only [tget_puts,Nat.reduceLT,Nat.reduceEqDiff,↓reduceIte,h3]
  ·rw [List.take_of_length_le (by omega)] at hm
   exact hm
 simp only [andThen]
 obtain ⟨b,o,e1,e2,hbN⟩:=(hx.keep hk (Nat.le_refl _)).fIdx hlt
 refine W.seq (W.block (W.seq (W.region ?_)))
 obtain ⟨H1,s1,v1,hnx1⟩:=var3 (H:=H) ts[i]
 have hmne:m ≠ H.nx:=fun e=>by rw [e] at hm1; omega
 have hm':PT.get m H1.t = some (.map ((lastT [] (ts.take i)).map entT)):=by rw [v1.keep.get m hm1]; exact hm
 simp (maxDischargeDepth:=9) only [auW,auC,auT,lget,BEq.rfl,beq_self_eq_true,decide_true,decide_false,reduceCtorEq,Nat.reduceLT,Nat.reduceEqDiff,↓reduceIte,g27r4,h7,h9,e1,fLoadN,e2]
 refine wo_store (b:=H.nx) (o:=0) (vs:=cell3 ts[i]) (by simp only [auT,Nat.reduceLT,Nat.reduceEqDiff,↓reduceIte]) (by simp only [auT,Nat.reduceLT,Nat.reduceEqDiff,↓reduceIte]; rfl) rfl s1 ?_
 simp (maxDischargeDepth:=9) only [auW,auC,auT,lget,BEq.rfl,beq_self_eq_true,decide_true,decide_false,reduceCtorEq,Nat.reduceLT,Nat.reduceEqDiff,↓reduceIte]
 simp only [andThen]
 refine W.seq (W.region ?_)
 simp (maxDischargeDepth:=9) only [auW,auC,auT,lget,BEq.rfl,beq_self_eq_true,decide_true,decide_false,reduceCtorEq,Nat.reduceLT,Nat.reduceEqDiff,↓reduceIte,g27r5,v1.l0,v1.l1]
 have hsn:lastT [] (ts.take (i + 1)) = (match eqI ts[i].1 ts[i].2.1 with | true=>lastT [] (ts.take i) | false=>putT (normT ts[i]) (lastT [] (ts.take i))):=by
  rw [List.take_succ_eq_append_getElem hlt,lastT_snoc]
 have hnn:N≤H.nx.toNat:=Nat.le_trans hN hk.nx
 have hk1:Keep N H0 H1:=hk.trans (v1.keep.mono hnn)
 simp only [andThen]
 refine W.cond_if (p:=ts[i].1 ≠ ts[i].2.1) (by simp [AOpnd.ev,tget_puts]) (fun hne=>W.region ?_) (fun heq=>W.skip ?_)
 rotate_left
 ·have heq:ts[i].1 = ts[i].2.1:=by simpa using heq
  have he:eqI ts[i].1 ts[i].2.1 = true:=by rw [eqI_eq]; simpa using heq
  rw [he] at hsn
  simp only [andThen,inBlock]
  refine W.region ?_
  simp (maxDischargeDepth:=9) only [auW,auC,auT,lget,BEq.rfl,beq_self_eq_true,decide_true,decide_false,reduceCtorEq,Nat.reduceLT,Nat.reduceEqDiff,↓reduceIte,g27r7,h9,b_add (show i + 1≤9223372036854775807 by omega)]
  refine ⟨by trivial,n - 1,by omega,i + 1,by omega,?_,?_,?_,?_,?_,hm0,Nat.lt_of_lt_of_le hm1 v1.keep.nx,hk1⟩
  ·simp only [tget_puts,Nat.reduceLT,Nat.reduceEqDiff,↓reduceIte,h7]
  ·simp only [tget_puts,Nat.reduceLT,Nat.reduceEqDiff,↓reduceIte,h8]
  ·simp only [tget_puts,Nat.reduceLT,Nat.reduceEqDiff,↓reduceIte]
  ·simp only [tget_puts,Nat.reduceLT,Nat.reduceEqDiff,↓reduceIte,h3]
  ·rw [hsn]; exact hm'
 ·have he:eqI ts[i].1 ts[i].2.1 = false:=by
   rw [eqI_eq]; simpa using hne
  rw [he] at hsn
  have hput:=putKey_ent (H:=H1) (t:=normT ts[i]) (m:=lastT [] (ts.take i)) (lastT_nodup (by simp))
  simp (maxDischargeDepth:=9) only [auW,auC,auT,lget,BEq.rfl,beq_self_eq_true,decide_true,decide_false,reduceCtorEq,Nat.reduceLT,Nat.reduceEqDiff,↓reduceIte,g27r6,h3,v1.l0,v1.l1,v1.l2,mm_min,mm_max]
  refine wo_buildE (vs:=[.int .i64 (minI ts[i].1 ts[i].2.1),.int .i64 (maxI ts[i].1 ts[i].2.1)]) (by simp [fillA,AOpnd.ev,tget_puts,vcellsO,lput,lover]) ?_
  simp (maxDischargeDepth:=9) only [auW,auC,auT,lget,BEq.rfl,beq_self_eq_true,decide_true,decide_false,reduceCtorEq,Nat.reduceLT,Nat.reduceEqDiff,↓reduceIte,v1.l2]
  refine wo_mapUpdate (b:=m) (kv:=(entT (normT ts[i])).1) (vv:=(entT (normT ts[i])).2) (by simp only [auT,Nat.reduceLT,Nat.reduceEqDiff,↓reduceIte]) hm' (by simp only [auT,Nat.reduceLT,Nat.reduceEqDiff,↓reduceIte]; rfl) (by simp only [auT,Nat.reduceLT,Nat.reduceEqDiff,↓reduceIte]; rfl) rfl hput ?_
  simp (maxDischargeDepth:=9) only [auW,auC,auT,lget,BEq.rfl,beq_self_eq_true,decide_true,decide_false,reduceCtorEq,Nat.reduceLT,Nat.reduceEqDiff,↓reduceIte]
  simp only [andThen,inBlock]
  refine W.region ?_
  simp (maxDischargeDepth:=9) only [auW,auC,auT,lget,BEq.rfl,beq_self_eq_true,decide_true,decide_false,reduceCtorEq,Nat.reduceLT,Nat.reduceEqDiff,↓reduceIte,g27r7,h9,b_add (show i + 1≤9223372036854775807 by omega)]
  refine ⟨by trivial,n - 1,by omega,i + 1,by omega,?_,?_,?_,?_,?_,hm0,Nat.lt_of_lt_of_le hm1 v1.keep.nx,hk1.trans (keep_upd hm0)⟩
  ·simp only [tget_puts,Nat.reduceLT,Nat.reduceEqDiff,↓reduceIte,h7]
  ·simp only [tget_puts,Nat.reduceLT,Nat.reduceEqDiff,↓reduceIte,h8]
  ·simp only [tget_puts,Nat.reduceLT,Nat.reduceEqDiff,↓reduceIte]
  ·simp only [tget_puts,Nat.reduceLT,Nat.reduceEqDiff,↓reduceIte,h3]
  ·rw [hsn]; exact get_upd
theorem last_ok (C:CodeOk E) {N:Nat} {H:AHeap} {x:AVal} {ts:List Trp} (hx:TReads N H x ts) (hN:N≤H.nx.toNat) (hl:ts.length≤1073741824) :
  ∃ v H',CallS E 27 [x] H v H'∧(∃ m,v = .map m∧PT.get m H'.t = some (.map ((lastT [] ts).map entT))∧H.nx.toNat≤m.toNat∧m.toNat < H'.nx.toNat)∧Keep H.nx.toNat H H':=by
 refine CallS.by (R:=fun v H'=>(∃ m,v = .map m∧PT.get m H'.t = some (.map ((lastT [] ts).map entT))∧H.nx.toNat≤m.toNat∧m.toNat < H'.nx.toNat)∧Keep H.nx.toNat H H') (t0:=tput .l (some (Pos.ofNat 0)) x) (C.s _ rfl) rfl C.f27 rfl ?_
 refine W.seq (W.region ?_)
 simp (maxDischargeDepth:=9) only [auW,auC,auT,lget,BEq.rfl,beq_self_eq_true,decide_true,decide_false,reduceCtorEq,Nat.reduceLT,Nat.reduceEqDiff,↓reduceIte,g27r0]
 refine W.seq (W.region ?_)
 simp (maxDischargeDepth:=9) only [auW,auC,auT,lget,BEq.rfl,beq_self_eq_true,decide_true,decide_false,reduceCtorEq,Nat.reduceLT,Nat.reduceEqDiff,↓reduceIte,g27r1]
 refine W.seq (W.seq (W.region ?_))
 simp (maxDischargeDepth:=9) only [auW,auC,auT,lget,BEq.rfl,beq_self_eq_true,decide_true,decide_false,reduceCtorEq,Nat.reduceLT,Nat.reduceEqDiff,↓reduceIte,g27r2,(hx.keep (keep_new (x:=.map [])) hN).fLen]
 refine W.block (W.mono (last_loop (N:=H.nx.toNat) (m:=H.nx) (hx.mono hN) (Nat.le_refl _) hl ts.length _ _ ⟨0,by omega,?_,?_,?_,?_,?_,Nat.le_refl _,?_,keep_new⟩) ?_)
 ·simp only [tget_puts,Nat.reduceLT,Nat.reduceEqDiff,↓reduceIte]
 ·simp only [tget_puts,Nat.reduceLT,Nat.reduceEqDiff,↓reduceIte]
 ·simp only [tget_puts,Nat.reduceLT,Nat.reduceEqDiff,↓reduceIte]
 ·simp only [tget_puts,Nat.reduceLT,Nat.reduceEqDiff,↓reduceIte]
 ·exact get_new
 ·rw [nx_new]; omega
 rintro e ⟨t',ds⟩ H' ⟨rfl,hd,h3,hm,hm1,hk⟩
 have hd:ds = []:=hd
 subst hd
 have h3:tget t' (Pos.ofNat 3) = .map H.nx:=h3
 simp only [andThen,inBlock,beq_t]
 refine W.seq (W.region ?_)
 simp (maxDischargeDepth:=9) only [auW,auC,auT,lget,BEq.rfl,beq_self_eq_true,decide_true,decide_false,reduceCtorEq,Nat.reduceLT,Nat.reduceEqDiff,↓reduceIte,g27r9,h3]
 refine W.ret ⟨.inr rfl,rfl,.map H.nx,?_,⟨H.nx,rfl,hm,Nat.le_refl _,hm1⟩,hk⟩
 simp [resultA,g27,tget_puts]
end
end Go.Am
end

section
namespace Go.Am
open Go Go.RowKit
theorem CallS.sum {E:Env} {f:FuncId} {s:List AVal→AHeap→ARes} (hf:Nat.blt f 2147483648 = true) (hs:PT.get (Pos.ofNat f) E.sums = some s) {args:List AVal} {H H':AHeap} {v:AVal} (h:s args H = some (v,H')) :CallS E f args H v H' :=
 ⟨0,fun n _=>by unfold callA; rw [hf,hs]; exact h⟩
def netT (ts:List Trp) :List Trp:=sortT (lastT [] ts)
def tripsAt (h:AHeap) :AVal→Option (List Trp)
 | .snil=>some []
 | .sl b o n cap sz=>match Nat.ble n cap,(match sz with | 0=>true | 3=>true | _=>false),hloadN h b o (Nat.mul n 3) with
  | true,true,some l=>tripsOf l
  | _,_,_=>none
 | _=>none
def sNet:List AVal→AHeap→ARes
 | [x],h=>match tripsAt h x with
  | some ts=>match Nat.ble ts.length 100000000 with
   | true=>match netT ts with
    | ss=>match h.new (.cells (tripVals ss) false false) with
     | (b,h')=>some (.sl b 0 ss.length ss.length 0,h')
   | false=>none
  | none=>none
 | _,_=>none
theorem sorted_triples {a b:List Trp} (h:a.Perm b) (hn:(b.map keyT).Nodup) :sortT a = sortT b:=by
 have hna:(a.map keyT).Nodup:=(h.map keyT).nodup_iff.2 hn
 refine List.Perm.eq_of_pairwise (le:=fun a b=>LtK (keyT a) (keyT b)) (fun x y _ _ h1 h2=>absurd (h1.trans h2) (LtK.irrefl _)) (sortT_sorted hna) (sortT_sorted hn) (((sortT_perm a).trans h).trans (sortT_perm b).symm)
theorem netT_length (ts:List Trp) :(netT ts).length = (lastT [] ts).length:=(sortT_perm _).length_eq
theorem tripsAt_part {h:AHeap} {x:AVal} {ts:List Trp} (hx:tripsAt h x = some ts) :∃ t0:PT AObj,(∀ p o0,PT.get p t0 = some o0→∃ o,PT.get p h.t = some o∧RoObj o o0)∧(∀ nx,(∀ p,PT.get p h.t ≠ none→p.toNat < nx)→TReads nx ⟨t0,h.nx⟩ x ts):=by
 unfold tripsAt at hx
 split at hx
 ·cases hx
  exact ⟨.l,fun p o0 h=>(by rw [get_nil] at h; cases h),fun nx _=>.inl ⟨rfl,rfl⟩⟩
 ·rename_i b o n cap sz
  split at hx
  ·rename_i l hle hsz hl
   have hle:=Nat.le_of_ble_eq_true hle
   have hsz:sz = 0∨sz = 3:=by
    split at hsz
    ·exact .inl rfl
    ·exact .inr rfl
    ·cases hsz
   have e:=tripsOf_ok hx
   subst e
   unfold hloadN at hl
   split at hl
   ·rename_i c op ro hb
    obtain ⟨e1,e2⟩:=lsub_eq hl
    have hn:n = ts.length:=by
     have:=congrArg List.length e1
     rw [tripVals_length,List.length_take,List.length_drop] at this
     have:Nat.mul n 3 = n * 3:=rfl
     omega
    refine ⟨PT.set b (some (.cells c false true)) .l,fun p o0 hp=>?_,fun nx hnx=>.inr ⟨b,o,cap,sz,by rw [hn],?_,hnx b (by rw [hb]; simp),hsz,by omega⟩⟩
    ·by_cases e:b = p
     ·subst e
      rw [PT.get_set_same] at hp
      cases hp
      exact ⟨_,hb,.inl ⟨c,op,ro,rfl,rfl⟩⟩
     ·rw [PT.get_set_other _ _ _ _ e,get_nil] at hp
      cases hp
    ·unfold hloadN
     rw [PT.get_set_same]
     rw [hn] at hl
     exact hl
   ·cases hl
  ·cases hx
 ·cases hx
theorem repl3_length (a b c:AVal) :∀ n,(repl [a,b,c] n).length = n * 3
 | 0=>rfl
 | n + 1=>by simp only [repl,List.length_append,repl3_length a b c n]; simp; omega
section
variable {P:Program} {T:Tys} {E:Env}
theorem net_round {n:Nat} {t:PT AVal} {H:AHeap} {b m pr:Pos} {done:List Trp} {rest:List AVal} {x:Trp} (h4:tget t (Pos.ofNat 4) = .sl b 0 done.length n 0) (hb:PT.get b H.t = some (.cells (tripVals done ++ rest) false false)) (hbl:b.toNat < H.nx.toNat) (hlt:done.length < n) (hr:3≤rest.length) (h13:tget t (Pos.ofNat 13) = .ptr pr 0)
  (hpr:∃ x,PT.get pr H.t = some (.raw x)) (hm:∃ x,PT.get m H.t = some (.raw x)) (hprl:pr.toNat < H.nx.toNat) (hml:m.toNat < H.nx.toNat) :
  WO E [] [⟨some (Pos.ofNat 17),.extract (.t (Pos.ofNat 16)) 0,none⟩,⟨some (Pos.ofNat 18),.extract (.t (Pos.ofNat 16)) 1,none⟩,⟨some (Pos.ofNat 5),.alloc [.int .i64 (.ofNat 0),.int .i64 (.ofNat 0)],none⟩,⟨none,.store 2 (.t (Pos.ofNat 5)) (.t (Pos.ofNat 17)),none⟩,⟨some (Pos.ofNat 6),.move (.t (Pos.ofNat 18)),none⟩]
   (tput (tput (tput t (some (Pos.ofNat 14)) (.tup [.bool true,(entT x).1,(entT x).2])) (some (Pos.ofNat 15)) (.bool true)) (some (Pos.ofNat 16)) (.tup [(entT x).1,(entT x).2])) H
   (fun t2 H2=>W E (.region g7r6) none ⟨t2,[]⟩ H2 (fun e aa H3=>e = .normal∧aa.ds = []∧(tget aa.t (Pos.ofNat 4) = .sl b 0 (done ++ [x]).length n 0∧PT.get b H3.t = some (.cells (tripVals (done ++ [x]) ++ rest.drop 3) false false)∧b.toNat < H3.nx.toNat∧H.nx.toNat≤H3.nx.toNat)∧tget aa.t (Pos.ofNat 13) = .ptr pr 0∧PT.get pr H3.t = PT.get pr H.t∧PT.get m H3.t = PT.get m H.t)):=by
 have nx2:∀ c,(H.new c).2.nx.toNat = H.nx.toNat + 1:=fun c=>nx_new
 have hbn:b ≠ H.nx:=fun e=>by rw [e] at hbl; omega
 have hprn:pr ≠ H.nx:=fun e=>by rw [e] at hprl; omega
 have hmn:m ≠ H.nx:=fun e=>by rw [e] at hml; omega
 obtain ⟨px,hpr⟩:=hpr
 obtain ⟨mx,hm⟩:=hm
 have hbp:b ≠ pr:=fun e=>by rw [e,hpr] at hb; cases hb
 have hbm:b ≠ m:=fun e=>by rw [e,hm] at hb; cases hb
 simp (maxDischargeDepth:=9) only [auW,auC,auT,lget,BEq.rfl,beq_self_eq_true,decide_true,decide_false,reduceCtorEq,Nat.reduceLT,Nat.reduceEqDiff,↓reduceIte,entT]
 have hst:hstoreN (H.new (.cells [.int .i64 (.ofNat 0),.int .i64 (.ofNat 0)] false false)).2 H.nx 0 [.int .i64 x.1,.int .i64 x.2.1] = some ((H.new (.cells [.int .i64 (.ofNat 0),.int .i64 (.ofNat 0)] false false)).2.upd H.nx (.cells [.int .i64 x.1,.int .i64 x.2.1] false false)):=by
  unfold hstoreN
  rw [get_new]
  rfl
 refine wo_store (b:=H.nx) (o:=0) (vs:=[.int .i64 x.1,.int .i64 x.2.1]) (by simp only [auT,Nat.reduceLT,Nat.reduceEqDiff,↓reduceIte]) (by simp only [auT,Nat.reduceLT,Nat.reduceEqDiff,↓reduceIte]; rfl) rfl hst ?_
 generalize hH1:(H.new (.cells [.int .i64 (.ofNat 0),.int .i64 (.ofNat 0)] false false)).2.upd H.nx (.cells [.int .i64 x.1,.int .i64 x.2.1] false false) = H1
 have n1:H1.nx.toNat = H.nx.toNat + 1:=by rw [← hH1]; show H.nx.succ.toNat = _; exact Pos.toNat_succ _
 have hg:PT.get H.nx H1.t = some (.cells [.int .i64 x.1,.int .i64 x.2.1] false false):=by rw [← hH1]; exact get_upd
 have ho:∀ p,p ≠ H.nx→PT.get p H1.t = PT.get p H.t:=fun p hp=>by
  rw [← hH1,get_upd_other (fun e=>hp e.symm),get_new_other hp]
 have l0:hload H1 H.nx (0 + 0) = some (.int .i64 x.1):=by rw [hload_at hg (by simp)]; rfl
 have l1:hload H1 H.nx (0 + 1) = some (.int .i64 x.2.1):=by rw [hload_at hg (by simp)]; rfl
 simp (maxDischargeDepth:=9) only [auW,auC,auT,lget,BEq.rfl,beq_self_eq_true,decide_true,decide_false,reduceCtorEq,Nat.reduceLT,Nat.reduceEqDiff,↓reduceIte]
 refine W.region ?_
 have i0:fIdxA 2 1 (.ptr H.nx 0) (.int .i64 (.ofNat 0)) = some (.ptr H.nx (0 + 0)):=rfl
 have i1:fIdxA 2 1 (.ptr H.nx 0) (.int .i64 (.ofNat 1)) = some (.ptr H.nx (0 + 1)):=rfl
 simp (maxDischargeDepth:=9) only [auW,auC,auT,lget,BEq.rfl,beq_self_eq_true,decide_true,decide_false,reduceCtorEq,Nat.reduceLT,Nat.reduceEqDiff,↓reduceIte,g7r6,h4,i0,i1,l0,l1]
 refine wo_buildE (vs:=cell3 x) (by simp [fillA,AOpnd.ev,tget_puts,vcellsO,lput,lover]) ?_
 refine wo_buildSlice (vs:=cell3 x) (by simp [fillA,AOpnd.ev,tget_puts,vcellsO,lput,lover]) ?_
 generalize hH2:(H1.new (.cells (cell3 x) false false)).2 = H2
 have n2:H2.nx.toNat = H.nx.toNat + 2:=by rw [← hH2,nx_new,n1]
 have hbn1:∀ p,p.toNat < H.nx.toNat→p ≠ H1.nx:=fun p hp e=>by rw [e,n1] at hp; omega
 have ho2:∀ p,p.toNat < H.nx.toNat→PT.get p H2.t = PT.get p H.t:=fun p hp=>by
  rw [← hH2,get_new_other (hbn1 p hp)]
  exact ho p (fun e=>by rw [e] at hp; omega)
 have hb2:PT.get b H2.t = some (.cells (tripVals done ++ rest) false false):=by rw [ho2 b hbl]; exact hb
 have hsrc:srcCells H2 3 (.sl H1.nx 0 1 1 0) = some (1,cell3 x):=by
  have:hloadN H2 H1.nx 0 (Nat.mul 1 3) = some (cell3 x):=by
   rw [← hH2]
   unfold hloadN
   rw [get_new]
   rfl
  unfold srcCells
  simp only [this]
 refine wo_appendE (append_troom (by':=24) hb2 hlt hr hsrc) (by simp only [auT,Nat.reduceLT,Nat.reduceEqDiff,↓reduceIte,h4]) (by simp only [auT,Nat.reduceLT,Nat.reduceEqDiff,↓reduceIte]) ?_
 simp (maxDischargeDepth:=9) only [auW,auC,auT,lget,BEq.rfl,beq_self_eq_true,decide_true,decide_false,reduceCtorEq,Nat.reduceLT,Nat.reduceEqDiff,↓reduceIte]
 refine ⟨by trivial,by trivial,⟨?_,get_upd,?_,?_⟩,?_,?_,?_⟩
 ·simp
 ·show b.toNat < H2.nx.toNat; omega
 ·show H.nx.toNat≤H2.nx.toNat; omega
 ·(try dsimp only)
  simp only [tget_puts,Nat.reduceLT,Nat.reduceEqDiff,↓reduceIte,h13]
 ·rw [get_upd_other hbp]; exact ho2 pr hprl
 ·rw [get_upd_other hbm]; exact ho2 m hml
theorem sumOk_net (hT:TOk2 T P) (hE:∀ B,EnvOk P T B E) (hm:P.follows .mixedOrders = true) (C:CodeOk E) (hsort:PT.get (Pos.ofNat 28) E.sums = some (sSortT 29)) {f:FuncId} {fn:Func} (hf:P.funcs[f]? = some fn) (hname:(fn.name == "runtime.NumGoroutine") = false)
  {c0 c1 c2 c8 c9 restC:Code} {i3 b0 b1 rn re:Nat} {q0 oR o1 o2 oE:Oper} {opsE:Array Oper} {lE:List Oper}
  (hb:fn.body = some (.seq c0 (.seq c1 (.seq c2 (.seq (.seq (.region i3 #[q0,oR] false) (.block b0 (.loop (.seq (.region rn #[o1,o2] false) (.seq (.cond (.tmp 15) .skip (.exit b0)) (.block b1 (.seq (.region re opsE false) restC))))))) (.seq c8 (.seq c9 .ret)))))))
  (hnt:fn.ntmps = 31) (hres:compRes T fn.results.toList = some [(Pos.ofNat 2,none)])
  (k0:comp T 31 false c0 = .region g7r0) (k1:comp T 31 false c1 = .region g7r1) (k2:comp T 31 false c2 = .region g7r2) (k8:comp T 31 false c8 = .region g7r8) (k9:comp T 31 false c9 = .region g7r9) (kr:comp T 31 false restC = .region g7r6)
  (kq:compOpers T 31 [q0,oR] [q0] = some [⟨some (Pos.ofNat 12),.move (.t (Pos.ofNat 3)),none⟩]) (hopsE:opsE.toList = oE :: lE)
  (kE:compOpers T 31 opsE.toList lE = some [⟨some (Pos.ofNat 17),.extract (.t (Pos.ofNat 16)) 0,none⟩,⟨some (Pos.ofNat 18),.extract (.t (Pos.ofNat 16)) 1,none⟩,⟨some (Pos.ofNat 5),.alloc [.int .i64 (.ofNat 0),.int .i64 (.ofNat 0)],none⟩,⟨none,.store 2 (.t (Pos.ofNat 5)) (.t (Pos.ofNat 17)),none⟩,⟨some (Pos.ofNat 6),.move (.t (Pos.ofNat 18)),none⟩])
  {tm kt et:TypeId} (hR:oR.op = .range tm (.tmp 12)) (hRd:oR.dst = some 13) (hRg:oR.guard = none) (hRt:P.underlying tm = some (.map kt et)) (h1:o1.op = .next (.tmp 13) false) (h1d:o1.dst = some 14) (h1g:o1.guard = none) (h2:o2.op = .extract (.tmp 14) 0) (h2d:o2.dst = some 15) (h2g:o2.guard = none)
  (hE1:oE.op = .entry (.tmp 13)) (hEd:oE.dst = some 16) (hEg:oE.guard = none) (B:Nat) :SumOk P T B f sNet:=by
 intro φ H w args args' v H' hH hl h
 unfold sNet at h
 split at h
 rotate_left
 ·cases h
 rename_i x
 split at h
 rotate_left
 ·cases h
 rename_i ts hts
 split at h
 rotate_left
 ·cases h
 rename_i hle
 have hle:ts.length≤100000000:=Nat.le_of_ble_eq_true hle
 simp only [AHeap.new,Option.some.injEq,Prod.mk.injEq] at h
 obtain ⟨rfl,rfl⟩:=h
 obtain ⟨t0,hsub,hrd⟩:=tripsAt_part hts
 have hx:=hrd H.nx.toNat hH.dom
 have hH0:=hH.part2 hsub
 have hsound:=fun n=>sound hT (hE w.heap.size) hm n (P:=P) (T:=T)
 generalize hes:lastT [] ts = es at *
 have hnd:(es.map keyT).Nodup:=by rw [← hes]; exact lastT_nodup (by simp)
 have hlen:es.length≤100000000:=by
  have:∀ (l m:List Trp),(lastT m l).length≤m.length + l.length:=by
   intro l
   induction l with
   | nil=>intro m; simp [lastT]
   | cons t l ih =>
    intro m
    simp only [lastT]
    have hp:∀ (t:Trp) (m:List Trp),(putT t m).length≤m.length + 1:=by
     intro t m
     induction m with
     | nil=>simp [putT]
     | cons y m ih2 =>
      simp only [putT]
      split
      ·simp
      ·simp; exact ih2
    split
    ·have:=ih m; simp; omega
    ·have:=ih (putT (normT t) m)
     have:=hp (normT t) m
     simp; omega
  have:=this ts []
  rw [hes] at this
  simp at this
  omega
 refine .inl (returns_part (t0:=t0) hH (flat_tripVals _) (run_callFunc hf hname hb) (CallsIn.mono (ends_of_wp (R:=fun v H'=>∃ pb,v = .sl pb 0 (netT ts).length (netT ts).length 0∧PT.get pb H'.t = some (.cells (tripVals (netT ts)) false false)) hT hf hb hres ?_) fun e w' h=>h))
 rw [hnt]
 have hs0:St T w.heap.size 31 φ ⟨t0,H.nx⟩ w (fun t H1=>tget t (Pos.ofNat 0) = x∧H1 = ⟨t0,H.nx⟩) { tmps:=args' ++ Array.replicate (31 - args'.size) undef,defers:=[] } w :=
  ⟨tput .l (some (Pos.ofNat 0)) x,⟨t0,H.nx⟩,φ,⟨by simp only [tget_puts,Nat.reduceLT,Nat.reduceEqDiff,↓reduceIte],rfl⟩,Sim.refl hH0,act_start (args:=[x]) rfl hl (by decide)⟩
 have p0:=piece hsound k0 (ex:=.normal) (Q':=fun t H1=>tget t (Pos.ofNat 0) = x∧H1 = ⟨t0,H.nx⟩) (by
  rintro t H1 ⟨g0,g1⟩
  refine W.region ?_
  simp (maxDischargeDepth:=9) only [auW,auC,auT,lget,BEq.rfl,beq_self_eq_true,decide_true,decide_false,reduceCtorEq,Nat.reduceLT,Nat.reduceEqDiff,↓reduceIte,g7r0]
  exact ⟨by trivial,by trivial,by simp only [tget_puts,Nat.reduceLT,Nat.reduceEqDiff,↓reduceIte,g0],g1⟩) hs0
 refine wpIn_seq (wpIn_mono p0 ?_)
 rintro e a1 w1 ⟨rfl,hs1⟩
 simp only [exitOf,Exit.then]
 have p1:=piece hsound k1 (ex:=.normal) (Q':=fun t H1=>∃ m,tget t (Pos.ofNat 3) = .map m∧PT.get m H1.t = some (.map (es.map entT))∧m.toNat < H1.nx.toNat) (by
  rintro t H1 ⟨g0,g1⟩
  subst g1
  refine W.region ?_
  obtain ⟨v,H2,hc,⟨m,rfl,hm1,hm2,hm3⟩,hk⟩:=last_ok C hx (Nat.le_refl _) (by omega)
  simp (maxDischargeDepth:=9) only [auW,auC,auT,lget,BEq.rfl,beq_self_eq_true,decide_true,decide_false,reduceCtorEq,Nat.reduceLT,Nat.reduceEqDiff,↓reduceIte,g7r1,g0]
  refine wo_callE (hc) (by simp only [auT,Nat.reduceLT,Nat.reduceEqDiff,↓reduceIte]) ?_
  simp (maxDischargeDepth:=9) only [auW,auC,auT,lget,BEq.rfl,beq_self_eq_true,decide_true,decide_false,reduceCtorEq,Nat.reduceLT,Nat.reduceEqDiff,↓reduceIte]
  exact ⟨by trivial,by trivial,m,by simp only [tget_puts,Nat.reduceLT,Nat.reduceEqDiff,↓reduceIte],by rw [← hes]; exact hm1,hm3⟩) hs1
 refine wpIn_seq (wpIn_mono p1 ?_)
 rintro e a2 w2 ⟨rfl,hs2⟩
 simp only [exitOf,Exit.then]
 have p2:=piece hsound k2 (ex:=.normal) (Q':=fun t H1=>∃ m b,tget t (Pos.ofNat 3) = .map m∧PT.get m H1.t = some (.map (es.map entT))∧m.toNat < H1.nx.toNat∧tget t (Pos.ofNat 4) = .sl b 0 0 es.length 0∧PT.get b H1.t = some (.cells (repl [.int .i64 (.ofNat 0),.int .i64 (.ofNat 0),.bool false] es.length) false false)∧b.toNat < H1.nx.toNat) (by
  rintro t H1 ⟨m,g3,gm,gl⟩
  have hmne:m ≠ H1.nx:=fun e=>by rw [e] at gl; omega
  have hlm:fLen H1 2 (.map m) = some (.int .i64 (.ofNat es.length)):=by
   simp [fLen,gm]
  refine W.region ?_
  simp (maxDischargeDepth:=9) only [auW,auC,auT,lget,BEq.rfl,beq_self_eq_true,decide_true,decide_false,reduceCtorEq,Nat.reduceLT,Nat.reduceEqDiff,↓reduceIte,g7r2,g3,hlm]
  refine wo_mkSlice (n:=0) (c:=es.length) (by simp only [auT,Nat.reduceLT,Nat.reduceEqDiff,↓reduceIte]; rfl) (by simp only [auT,Nat.reduceLT,Nat.reduceEqDiff,↓reduceIte]; rfl) (by omega) (by omega) (by omega) ?_
  simp (maxDischargeDepth:=9) only [auW,auC,auT,lget,BEq.rfl,beq_self_eq_true,decide_true,decide_false,reduceCtorEq,Nat.reduceLT,Nat.reduceEqDiff,↓reduceIte]
  refine ⟨by trivial,by trivial,m,H1.nx,by simp only [tget_puts,Nat.reduceLT,Nat.reduceEqDiff,↓reduceIte,g3],by rw [get_new_other hmne]; exact gm,by rw [nx_new]; omega,by simp only [tget_puts,Nat.reduceLT,Nat.reduceEqDiff,↓reduceIte],get_new,by rw [nx_new]; omega⟩) hs2
 refine wpIn_seq (wpIn_mono p2 ?_)
 rintro e a3 w3 ⟨rfl,hs3⟩
 simp only [exitOf,Exit.then]
 have p3:=range_map hT (hE w.heap.size) hsound hopsE kr kq kE (tM:=12) (tR:=13) (tN:=14) (tB:=15) (tE:=16) hR hRd hRg hRt h1 h1d h1g h2 h2d h2g hE1 hEd hEg (by decide) (by decide) (by decide) (i0:=i3) (rn:=rn) (re:=re) (b0:=b0) (b1:=b1)
  (J:=fun mo pr ents t H1=>∃ (m:Pos) (done:List Trp) (b:Pos) (rest:List AVal),mo = some m∧(done.map entT ++ ents).Perm (es.map entT)∧tget t (Pos.ofNat 4) = .sl b 0 done.length es.length 0∧PT.get b H1.t = some (.cells (tripVals done ++ rest) false false)∧rest.length + done.length * 3 = es.length * 3∧b.toNat < H1.nx.toNat∧pr.toNat < H1.nx.toNat∧m.toNat < H1.nx.toNat) ?_ ?_ ?_ ?_ hs3
 rotate_left
 ·rintro t H1 ⟨m,b,g3,gm,gml,g4,gb,gbl⟩
  have hbm:m ≠ b:=fun e=>by rw [e,gb] at gm; cases gm
  refine ⟨_,by simp only [qops,quiet,AOpnd.ev]; rfl,.inr ⟨m,es.map entT,by simp only [tget_puts,Nat.reduceLT,Nat.reduceEqDiff,↓reduceIte,g3],by rw [gm]; rfl,fun ob1 ob2=>⟨m,[],b,repl [.int .i64 (.ofNat 0),.int .i64 (.ofNat 0),.bool false] es.length,rfl,by simp,by simp only [tget_puts,Nat.reduceLT,Nat.reduceEqDiff,↓reduceIte,g4]; rfl,?_,?_,?_,?_,?_⟩⟩⟩
  ·rw [get_new_other (fun e=>by rw [e] at gbl; exact Nat.lt_irrefl _ gbl),get_upd_other hbm]
   exact gb
  ·rw [repl3_length]; simp
  ·show b.toNat < H1.nx.succ.toNat; rw [Pos.toNat_succ]; omega
  ·show H1.nx.toNat < H1.nx.succ.toNat; rw [Pos.toNat_succ]; omega
  ·show m.toNat < H1.nx.succ.toNat; rw [Pos.toNat_succ]; omega
 ·rintro mo pr l1 l2 t H1 ⟨m,done,b,rest,j1,j2,j3⟩ hp
  exact ⟨m,done,b,rest,j1,((hp.symm.append_left _)).trans j2,j3⟩
 ·rintro mo pr l t H1 ob1 ob2 ⟨m,done,b,rest,j1,j2,j3,j4,j5⟩ hpr
  exact ⟨m,done,b,rest,j1,j2,j3,get_upd_raw j4 (by simp) hpr,j5⟩
 ·rintro m pr k v l t H1 ⟨m',done,b,rest,j1,j2,j3,j4,j5,j6,j7,j8⟩ h13 hpr hmr
  cases j1
  obtain ⟨y,hy,hye⟩:=List.mem_map.1 (j2.mem_iff.1 (show (k,v) ∈ done.map entT ++ (k,v) :: l by simp))
  have hke:k = (entT y).1:=by rw [hye]
  have hve:v = (entT y).2:=by rw [hye]
  subst hke hve
  have hlt:done.length < es.length:=by
   have:=j2.length_eq
   simp at this
   omega
  have hround:=net_round (E:=E) (n:=es.length) (x:=y) j3 j4 j6 hlt (by omega) h13 hpr hmr j7 j8
  obtain ⟨t2,H2,ho,hw⟩:=hround
  refine ⟨t2,H2,ho,W.mono hw ?_⟩
  rintro e aa H3 ⟨rfl,hds,⟨q1,q2,q3,q4⟩,q5,q6,q7⟩
  refine ⟨rfl,hds,⟨m,done ++ [y],b,rest.drop 3,rfl,?_,q1,q2,?_,q3,by omega,by omega⟩,q5,q6,q7⟩
  ·have:(entT y).1 = (entT y).1:=rfl
   simpa using j2
  ·simp only [List.length_drop,List.length_append,List.length_singleton]; omega
 refine wpIn_seq (wpIn_mono p3 ?_)
 rintro e a4 w4 ⟨rfl,hs4⟩
 simp only [exitOf,Exit.then]
 have p8:=piece hsound k8 (ex:=.normal) (Q':=fun t H1=>∃ b,tget t (Pos.ofNat 4) = .sl b 0 es.length es.length 0∧PT.get b H1.t = some (.cells (tripVals (netT ts)) false false)) (by
  rintro t H1 ⟨mo,pr,t1,⟨m,done,b,rest,j1,j2,j3,j4,j5,j6,j7,j8⟩,rfl⟩
  have hdl:done.length = es.length:=by
   have:=j2.length_eq
   simpa using this
  have hr0:rest = []:=List.length_eq_zero_iff.1 (by omega)
  subst hr0
  have hperm:done.Perm es:=by
   have hj:(done.map entT).Perm (es.map entT):=by simpa using j2
   have:∀ l:List Trp,(l.map entT).map (fun p=>match p with | (.agg [.int _ a,.int _ c],.bool g)=>((a,c,g) :Trp) | _=>(0,0,false)) = l:=by
    intro l
    rw [List.map_map]
    conv=>rhs; rw [← List.map_id l]
    exact List.map_congr_left fun x _=>rfl
   have h2:=hj.map (fun p=>match p with | (.agg [.int _ a,.int _ c],.bool g)=>((a,c,g) :Trp) | _=>(0,0,false))
   rw [this,this] at h2
   exact h2
  have hsame:sortT done = netT ts:=by
   rw [sorted_triples hperm hnd]
   unfold netT
   rw [hes]
  have hris:risT (sortT done) = true:=risT_of (sortT_sorted ((hperm.map keyT).nodup_iff.2 hnd))
  rw [List.append_nil] at j4
  rw [hsame] at hris
  have hcall:CallS E 28 [.sl b 0 es.length es.length 0,.func 29 [] []] H1 (.tup []) (H1.upd b (.cells (tripVals (netT ts)) false false)):=by
   refine CallS.sum (by decide) hsort ?_
   have e1:lsub (tripVals done) 0 (Nat.mul es.length 3) = some (tripVals done):=by
    rw [lsub_of (by rw [tripVals_length,hdl]; show 0 + es.length * 3≤_; omega)]
    rw [List.drop_zero,List.take_of_length_le (by rw [tripVals_length,hdl]; exact Nat.le_refl _)]
   have e2:Nat.ble es.length 1000000000 = true:=ble_t (by omega)
   have e3:List.drop (Nat.mul es.length 3) (tripVals done) = []:=List.drop_eq_nil_of_le (by rw [tripVals_length,hdl]; exact Nat.le_refl _)
   simp only [sSortT,Nat.beq_refl,beq_t,j4,e1,tripsOf_vals,e2,hris,e3,List.append_nil,hsame]
  rw [hdl] at j3
  refine W.region ?_
  simp (maxDischargeDepth:=9) only [auW,auC,auT,lget,BEq.rfl,beq_self_eq_true,decide_true,decide_false,reduceCtorEq,Nat.reduceLT,Nat.reduceEqDiff,↓reduceIte,g7r8,j3]
  refine wo_callE (hcall) (by simp only [auT,Nat.reduceLT,Nat.reduceEqDiff,↓reduceIte]) ?_
  simp (maxDischargeDepth:=9) only [auW,auC,auT,lget,BEq.rfl,beq_self_eq_true,decide_true,decide_false,reduceCtorEq,Nat.reduceLT,Nat.reduceEqDiff,↓reduceIte]
  exact ⟨by trivial,by trivial,b,by simp only [tget_puts,Nat.reduceLT,Nat.reduceEqDiff,↓reduceIte,j3],get_upd⟩) hs4
 refine wpIn_seq (wpIn_mono p8 ?_)
 rintro e a5 w5 ⟨rfl,hs5⟩
 simp only [exitOf,Exit.then]
 have p9:=piece hsound k9 (ex:=.normal) (Q':=fun t H1=>∃ b,tget t (Pos.ofNat 2) = .sl b 0 es.length es.length 0∧PT.get b H1.t = some (.cells (tripVals (netT ts)) false false)) (by
  rintro t H1 ⟨b,g4,gb⟩
  refine W.region ?_
  simp (maxDischargeDepth:=9) only [auW,auC,auT,lget,BEq.rfl,beq_self_eq_true,decide_true,decide_false,reduceCtorEq,Nat.reduceLT,Nat.reduceEqDiff,↓reduceIte,g7r9,g4]
  exact ⟨by trivial,by trivial,b,by simp only [tget_puts,Nat.reduceLT,Nat.reduceEqDiff,↓reduceIte],gb⟩) hs5
 refine wpIn_seq (wpIn_mono p9 ?_)
 rintro e a6 w6 ⟨rfl,hs6⟩
 simp only [exitOf,Exit.then]
 refine wpIn_ret ⟨.inr rfl,hs6.mono ?_⟩
 rintro t H1 ⟨b,g2,gb⟩
 have hnl:(netT ts).length = es.length:=by rw [netT_length,hes]
 exact ⟨[.sl b 0 es.length es.length 0],by simp [resultA,g2],b,by rw [hnl]; rfl,gb⟩
end
end Go.Am
end
