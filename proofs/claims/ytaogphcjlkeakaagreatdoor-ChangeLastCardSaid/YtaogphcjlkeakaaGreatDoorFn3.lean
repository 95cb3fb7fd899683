/- Part of the proof: AmH5, AmH6, AmH7. -/
import Derived.Test.YtaogphcjlkeakaaGreatDoorFn2
import Derived.Test.YtaogphcjlkeakaaGreatDoorGr1
set_option linter.unusedSimpArgs false
set_option linter.unusedVariables false
section
namespace Go.Am
open Go Go.RowKit
def tripOf:AVal × AVal→Trp:=fun p=>match p with
 | (.agg [.int _ a,.int _ c],.bool g)=>(a,c,g)
 | _=>(0,0,false)
theorem tripOf_ent (l:List Trp) :(l.map entT).map tripOf = l:=by
 rw [List.map_map]
 conv=>rhs; rw [← List.map_id l]
 exact List.map_congr_left fun x _=>rfl
def gOf:List AVal→AHeap→AVal × AHeap
 | [.int _ z,.map m],H=>match PT.get m H.t with
  | some (.map es)=>layGraph H m z.toNat (rowsZ z.toNat (es.map tripOf))
  | _=>(.pnil,H)
 | _,H=>(.pnil,H)
theorem gOf_eq {H:AHeap} {m:Pos} {n:Nat} {es:List Trp} (h:PT.get m H.t = some (.map (es.map entT))) :gOf [.int .i64 (.ofNat n),.map m] H = layGraph H m n (rowsZ n es):=by
 simp only [gOf,h,tripOf_ent]
 rfl
theorem putT_new {t:Trp} :∀ {m:List Trp},keyT t ∉ m.map keyT→putT t m = m ++ [t]
 | [],_=>rfl
 | x :: m,hx=>by
  simp only [List.map_cons,List.mem_cons,not_or] at hx
  simp only [putT]
  cases hb:(eqI t.1 x.1 && eqI t.2.1 x.2.1) with
  | true=>exact absurd ((eqT_iff t x).1 hb) hx.1
  | false=>simp only [List.cons_append]; rw [putT_new hx.2]
theorem chAll_perm:∀ (ts:List Trp) {n:Nat} {a b:List Trp},a.Perm b→Edges n a→(∀ t ∈ ts,Within n t)→(chAll a ts).Perm (chAll b ts)
 | [],n,a,b,h,_,_=>h
 | t :: ts,n,a,b,h,ha,hw=>by
  have hb:Edges n b:=ha.perm h
  have nd:∀ {l:List Trp},(l.map keyT).Nodup→l.Nodup:=fun h=>(List.pairwise_map.1 h).imp fun hne e=>hne (by rw [e])
  have h1:(chT a t).Perm (chT b t):=by
   have ca:=ha.ch (hw t (by simp))
   have cb:=hb.ch (hw t (by simp))
   refine (List.perm_ext_iff_of_nodup (nd ca.nd) (nd cb.nd)).2 fun x=>?_
   unfold chT
   cases eqI t.1 t.2.1 with
   | true=>exact h.mem_iff
   | false =>
    cases t.2.2 with
    | true=>simp only [dropT_mem ha.nd,dropT_mem hb.nd,h.mem_iff]
    | false=>simp only [putT_mem ha.nd,putT_mem hb.nd,h.mem_iff]
  exact chAll_perm ts h1 (ha.ch (hw t (by simp))) fun x hx=>hw x (by simp [hx])
theorem dropT_length (t:Trp) (m:List Trp) :(dropT t m).length≤m.length:=(dropT_sub t m).length_le
theorem putT_length (t:Trp) :∀ m:List Trp,(putT t m).length≤m.length + 1
 | []=>by simp [putT]
 | y :: m=>by
  have:=putT_length t m
  simp only [putT]
  split
  ·simp
  ·simp only [List.length_cons]; omega
theorem chAll_length (ts:List Trp) :∀ m:List Trp,(chAll m ts).length≤m.length + ts.length:=by
 induction ts with
 | nil=>intro m; exact Nat.le_refl _
 | cons t ts ih =>
  intro m
  have h:=ih (chT m t)
  have h2:(chT m t).length≤m.length + 1:=by
   unfold chT
   split
   ·omega
   ·split
    ·have:=dropT_length (normT t) m; omega
    ·exact putT_length _ _
  simp only [List.length_cons]
  show (chAll (chT m t) ts).length≤_
  omega
theorem Within.nat {n:Nat} {t:Trp} (h:Within n t) :∃ i j,t.1 = Int.ofNat i∧t.2.1 = Int.ofNat j∧i < n∧j < n:=by
 obtain ⟨h1,h2,h3,h4⟩:=h
 obtain ⟨i,hi⟩:=Int.eq_ofNat_of_zero_le h1
 obtain ⟨j,hj⟩:=Int.eq_ofNat_of_zero_le h3
 exact ⟨i,j,hi,hj,by omega,by omega⟩
section
variable {E:Env}
theorem ch_loop (s34:PT.get (Pos.ofNat 34) E.sums = none) (f34:PT.get (Pos.ofNat 34) E.fns = some g34) (s35:PT.get (Pos.ofNat 35) E.sums = none) (f35:PT.get (Pos.ofNat 35) E.fns = some g35) {N:Nat} {H0:AHeap} {x:AVal} {ts:List Trp} (hx:TReads N H0 x ts) {n:Nat} (hw:∀ t ∈ ts,Within n t) (hl:ts.length≤1000000) {g m2:Pos} {c1 c2:AVal} (hg:PT.get g H0.t = some (.cells [.int .i64 (.ofNat n),c1,c2] false true)) (hgl:g.toNat < N) (hm2:N≤m2.toNat) {d0:List Trp} (hd0:Edges n d0) {ro:Option Pos} :
  ∀ (q:Nat) (t:PT AVal) (H:AHeap),(∃ i,i + q = ts.length∧tget t (Pos.ofNat 0) = .ptr g 0∧tget t (Pos.ofNat 6) = .map m2∧tget t (Pos.ofNat 22) = x∧tget t (Pos.ofNat 23) = .int .i64 (.ofNat ts.length)∧tget t (Pos.ofNat 24) = .int .i64 (.ofNat i)∧PT.get m2 H.t = some (.map ((chAll d0 (ts.take i)).map entT))∧m2.toNat < H.nx.toNat∧Keep N H0 H) →
  W E (.loop g11l17) ro ⟨t,[]⟩ H (fun e a H'=>e = .exit 2∧a.ds = []∧tget a.t (Pos.ofNat 0) = .ptr g 0∧tget a.t (Pos.ofNat 6) = .map m2∧PT.get m2 H'.t = some (.map ((chAll d0 ts).map entT))∧m2.toNat < H'.nx.toNat∧Keep N H0 H'):=by
 refine W.loop_inv (Q:=fun e a H'=>e = .exit 2∧a.ds = []∧tget a.t (Pos.ofNat 0) = .ptr g 0∧tget a.t (Pos.ofNat 6) = .map m2∧PT.get m2 H'.t = some (.map ((chAll d0 ts).map entT))∧m2.toNat < H'.nx.toNat∧Keep N H0 H') _ ?_
 rintro q t H ⟨i,hi,h0,h6,h22,h23,h24,hm,hm1,hk⟩
 refine W.seq (W.region ?_)
 simp (maxDischargeDepth:=9) only [auW,auC,auT,lget,BEq.rfl,beq_self_eq_true,decide_true,decide_false,reduceCtorEq,Nat.reduceLT,Nat.reduceEqDiff,↓reduceIte,g11r8,h23,h24]
 refine W.seq (W.cond_if (p:=i < ts.length) (by simp [AOpnd.ev,tget_puts]) (fun hlt=>W.skip ?_) (fun hge=>W.exit ?_))
 rotate_left
 ·rw [List.take_of_length_le (by omega)] at hm
  exact ⟨by trivial,by trivial,by simp only [tget_puts,Nat.reduceLT,Nat.reduceEqDiff,↓reduceIte,h0],by simp only [tget_puts,Nat.reduceLT,Nat.reduceEqDiff,↓reduceIte,h6],hm,hm1,hk⟩
 simp only [andThen]
 obtain ⟨b,o,e1,e2,hbN⟩:=(hx.keep hk (Nat.le_refl _)).fIdx hlt
 refine W.seq (W.block (W.seq (W.region ?_)))
 obtain ⟨H1,s1,v1,hnx1⟩:=var3 (H:=H) ts[i]
 have hmne:m2 ≠ H.nx:=fun e=>by rw [e] at hm1; omega
 have hm':PT.get m2 H1.t = some (.map ((chAll d0 (ts.take i)).map entT)):=by rw [v1.keep.get m2 hm1]; exact hm
 simp (maxDischargeDepth:=9) only [auW,auC,auT,lget,BEq.rfl,beq_self_eq_true,decide_true,decide_false,reduceCtorEq,Nat.reduceLT,Nat.reduceEqDiff,↓reduceIte,g11r9,h22,h24,e1,fLoadN,e2]
 refine wo_store (b:=H.nx) (o:=0) (vs:=cell3 ts[i]) (by simp only [auT,Nat.reduceLT,Nat.reduceEqDiff,↓reduceIte]) (by simp only [auT,Nat.reduceLT,Nat.reduceEqDiff,↓reduceIte]; rfl) rfl s1 ?_
 simp (maxDischargeDepth:=9) only [auW,auC,auT,lget,BEq.rfl,beq_self_eq_true,decide_true,decide_false,reduceCtorEq,Nat.reduceLT,Nat.reduceEqDiff,↓reduceIte]
 simp only [andThen]
 have hnN:N≤H.nx.toNat:=by have:=hk.nx; omega
 have hk1:Keep N H0 H1:=hk.trans (v1.keep.mono hnN)
 have hg1:PT.get g H1.t = some (.cells [.int .i64 (.ofNat n),c1,c2] false true):=by rw [hk1.get g hgl]; exact hg
 have gl:hload H1 g (0 + 0) = some (.int .i64 (.ofNat n)):=by rw [hload_at hg1 (by simp)]; rfl
 obtain ⟨a,c,ha,hc,han,hcn⟩:=(hw ts[i] (List.getElem_mem hlt)).nat
 have l0:=v1.l0
 have l1:=v1.l1
 have l2:=v1.l2
 rw [ha] at l0
 rw [hc] at l1
 have hn1:H1.nx.toNat = H.nx.toNat + 1:=by rw [hnx1,Pos.toNat_succ]
 have c34a:=is_ok (E:=E) s34 f34 (H:=H1) han
 have c34b:=is_ok (E:=E) s34 f34 (H:=H1) hcn
 refine W.block (W.seq (W.draw ?_))
 simp (maxDischargeDepth:=9) only [auD,auC,auT,lget,BEq.rfl,beq_self_eq_true,decide_true,decide_false,reduceCtorEq,Nat.reduceLT,Nat.reduceEqDiff,↓reduceIte,g11d10,h0,gl,l0,l1]
 refine wd_callK c34a (by simp only [auT,Nat.reduceLT,Nat.reduceEqDiff,↓reduceIte]) ?_
 repeat (first | refine againK_skip rfl ?_ | refine againK_keep rfl (by simp only [auQ,auC,auT,BEq.rfl,Nat.reduceLT,Nat.reduceEqDiff,↓reduceIte,fNilCheck,fFieldAddr,fLoad1,h0,gl,l0,l1]) (by simp only [sames]) ?_ | refine againK_nil ?_)
 try dsimp only
 simp (maxDischargeDepth:=9) only [auD,auC,auT,lget,BEq.rfl,beq_self_eq_true,decide_true,decide_false,reduceCtorEq,Nat.reduceLT,Nat.reduceEqDiff,↓reduceIte,h0,gl,l0,l1]
 refine wd_callK c34b (by simp only [auT,Nat.reduceLT,Nat.reduceEqDiff,↓reduceIte]) ?_
 repeat (first | refine againK_skip rfl ?_ | refine againK_keep rfl (by simp only [auQ,auC,auT,BEq.rfl,Nat.reduceLT,Nat.reduceEqDiff,↓reduceIte,fNilCheck,fFieldAddr,fLoad1,h0,gl,l0,l1]) (by simp only [sames]) ?_ | refine againK_nil ?_)
 try dsimp only
 simp (maxDischargeDepth:=9) only [auD,auC,auT,lget,BEq.rfl,beq_self_eq_true,decide_true,decide_false,reduceCtorEq,Nat.reduceLT,Nat.reduceEqDiff,↓reduceIte,h0,gl,l0,l1]
 simp only [andThen]
 refine W.cond_false (by simp [AOpnd.ev,tget_puts]) (W.seq (W.region ?_))
 simp (maxDischargeDepth:=9) only [auW,auC,auT,lget,BEq.rfl,beq_self_eq_true,decide_true,decide_false,reduceCtorEq,Nat.reduceLT,Nat.reduceEqDiff,↓reduceIte,g11r12,l0,l1]
 simp only [andThen]
 have hsn:chAll d0 (ts.take (i + 1)) = chT (chAll d0 (ts.take i)) ts[i]:=by
  rw [List.take_succ_eq_append_getElem hlt,chAll_snoc]
 have hE:Edges n (chAll d0 (ts.take i)):=hd0.all fun t ht=>hw t (List.mem_of_mem_take ht)
 have fin:∀ (t':PT AVal) (H2:AHeap),Pres [0,6,22,23,24] t t'→PT.get m2 H2.t = some (.map ((chT (chAll d0 (ts.take i)) ts[i]).map entT))→m2.toNat < H2.nx.toNat→Keep N H0 H2 →
   W E (.region g11r16) ro ⟨t',[]⟩ H2 (loopPost [] (fun q t H=>∃ i,i + q = ts.length∧tget t (Pos.ofNat 0) = .ptr g 0∧tget t (Pos.ofNat 6) = .map m2∧tget t (Pos.ofNat 22) = x∧tget t (Pos.ofNat 23) = .int .i64 (.ofNat ts.length)∧tget t (Pos.ofNat 24) = .int .i64 (.ofNat i)∧PT.get m2 H.t = some (.map ((chAll d0 (ts.take i)).map entT))∧m2.toNat < H.nx.toNat∧Keep N H0 H) (fun e a H'=>e = .exit 2∧a.ds = []∧tget a.t (Pos.ofNat 0) = .ptr g 0∧tget a.t (Pos.ofNat 6) = .map m2∧PT.get m2 H'.t = some (.map ((chAll d0 ts).map entT))∧m2.toNat < H'.nx.toNat∧Keep N H0 H') q):=by
  intro t' H2 hp k1 k2 k3
  have p0:=(hp 0 (by simp)).trans h0
  have p6:=(hp 6 (by simp)).trans h6
  have p22:=(hp 22 (by simp)).trans h22
  have p23:=(hp 23 (by simp)).trans h23
  have p24:=(hp 24 (by simp)).trans h24
  refine W.region ?_
  simp (maxDischargeDepth:=9) only [auW,auC,auT,lget,BEq.rfl,beq_self_eq_true,decide_true,decide_false,reduceCtorEq,Nat.reduceLT,Nat.reduceEqDiff,↓reduceIte,g11r16,p24,b_add (show i + 1≤9223372036854775807 by omega)]
  refine ⟨by trivial,q - 1,by omega,i + 1,by omega,?_,?_,?_,?_,?_,by rw [hsn]; exact k1,k2,k3⟩
  ·simp only [tget_puts,Nat.reduceLT,Nat.reduceEqDiff,↓reduceIte,p0]
  ·simp only [tget_puts,Nat.reduceLT,Nat.reduceEqDiff,↓reduceIte,p6]
  ·simp only [tget_puts,Nat.reduceLT,Nat.reduceEqDiff,↓reduceIte,p22]
  ·simp only [tget_puts,Nat.reduceLT,Nat.reduceEqDiff,↓reduceIte,p23]
  ·simp only [tget_puts,Nat.reduceLT,Nat.reduceEqDiff,↓reduceIte]
 have hx1:=v1.keep.nx
 refine W.cond_if (p:=a = c) (by simp [AOpnd.ev,tget_puts]) (fun heq=>W.skip ?_) (fun hne=>?_)
 ·have he:eqI ts[i].1 ts[i].2.1 = true:=by rw [eqI_eq,ha,hc]; simp [heq]
  simp only [andThen,inBlock]
  refine fin _ _ ?_ ?_ (by omega) hk1
  ·try dsimp only
   repeat (first | refine Pres.put ?_ (by decide) (by decide) | exact Pres.refl _ _)
  ·unfold chT
   rw [he]
   exact hm'
 have he:eqI ts[i].1 ts[i].2.1 = false:=by rw [eqI_eq,ha,hc]; simpa using fun e:(a:Int) = c=>hne (by omega)
 refine W.seq (W.region ?_)
 simp (maxDischargeDepth:=9) only [auW,auC,auT,lget,BEq.rfl,beq_self_eq_true,decide_true,decide_false,reduceCtorEq,Nat.reduceLT,Nat.reduceEqDiff,↓reduceIte,g11r13,l2]
 simp only [andThen]
 obtain ⟨H2,c35,k35⟩:=key_ok (E:=E) s35 f35 (H:=H1) (Int.ofNat a) (Int.ofNat c) true
 have hm2':PT.get m2 H2.t = some (.map ((chAll d0 (ts.take i)).map entT)):=by rw [k35.get m2 (by omega)]; exact hm'
 have hk2:Keep N H0 H2:=hk1.trans (k35.mono (by omega))
 have h2n:=k35.nx
 cases hgone:ts[i].2.2 with
 | true =>
  refine W.cond_true (by simp [AOpnd.ev,tget_puts,hgone]) (W.region ?_)
  have hdrop:=dropKey_ent (H:=H2) (t:=normT (Int.ofNat a,Int.ofNat c,true)) hE.nd
  simp (maxDischargeDepth:=9) only [auW,auC,auT,lget,BEq.rfl,beq_self_eq_true,decide_true,decide_false,reduceCtorEq,Nat.reduceLT,Nat.reduceEqDiff,↓reduceIte,g11r14,l0,l1]
  refine wo_callE (c35) (by simp only [auT,Nat.reduceLT,Nat.reduceEqDiff,↓reduceIte]) ?_
  refine wo_mapDrop (b:=m2) (kv:=(entT (normT (Int.ofNat a,Int.ofNat c,true))).1) (by simp only [auT,Nat.reduceLT,Nat.reduceEqDiff,↓reduceIte,h6]) hm2' (by simp only [auT,Nat.reduceLT,Nat.reduceEqDiff,↓reduceIte]) rfl hdrop ?_
  simp (maxDischargeDepth:=9) only [auW,auC,auT,lget,BEq.rfl,beq_self_eq_true,decide_true,decide_false,reduceCtorEq,Nat.reduceLT,Nat.reduceEqDiff,↓reduceIte]
  simp only [andThen,inBlock]
  refine fin _ _ ?_ ?_ (by show m2.toNat < H2.nx.toNat; omega) (hk2.trans (keep_upd hm2))
  ·try dsimp only
   repeat (first | refine Pres.put ?_ (by decide) (by decide) | exact Pres.refl _ _)
  ·have:chT (chAll d0 (ts.take i)) ts[i] = dropT (normT (Int.ofNat a,Int.ofNat c,true)) (chAll d0 (ts.take i)):=by
    unfold chT
    rw [he,hgone]
    simp only
    have:normT ts[i] = normT (Int.ofNat a,Int.ofNat c,true):=by
     unfold normT
     rw [ha,hc,hgone]
    rw [this]
   rw [this]
   exact get_upd
 | false =>
  refine W.cond_false (by simp [AOpnd.ev,tget_puts,hgone]) (W.region ?_)
  have hput:=putKey_ent (H:=H2) (t:=normT (Int.ofNat a,Int.ofNat c,true)) hE.nd
  simp (maxDischargeDepth:=9) only [auW,auC,auT,lget,BEq.rfl,beq_self_eq_true,decide_true,decide_false,reduceCtorEq,Nat.reduceLT,Nat.reduceEqDiff,↓reduceIte,g11r15,l0,l1]
  refine wo_callE (c35) (by simp only [auT,Nat.reduceLT,Nat.reduceEqDiff,↓reduceIte]) ?_
  refine wo_mapUpdate (b:=m2) (kv:=(entT (normT (Int.ofNat a,Int.ofNat c,true))).1) (vv:=.bool true) (by simp only [auT,Nat.reduceLT,Nat.reduceEqDiff,↓reduceIte,h6]) hm2' (by simp only [auT,Nat.reduceLT,Nat.reduceEqDiff,↓reduceIte]) (by simp only [auT,Nat.reduceLT,Nat.reduceEqDiff,↓reduceIte]) rfl hput ?_
  simp (maxDischargeDepth:=9) only [auW,auC,auT,lget,BEq.rfl,beq_self_eq_true,decide_true,decide_false,reduceCtorEq,Nat.reduceLT,Nat.reduceEqDiff,↓reduceIte]
  simp only [andThen,inBlock]
  refine fin _ _ ?_ ?_ (by show m2.toNat < H2.nx.toNat; omega) (hk2.trans (keep_upd hm2))
  ·try dsimp only
   repeat (first | refine Pres.put ?_ (by decide) (by decide) | exact Pres.refl _ _)
  ·have:chT (chAll d0 (ts.take i)) ts[i] = putT (normT (Int.ofNat a,Int.ofNat c,true)) (chAll d0 (ts.take i)):=by
    unfold chT
    rw [he,hgone,ha,hc]
   rw [this]
   exact get_upd
end
end Go.Am
end

section
namespace Go.Am
open Go Go.RowKit
theorem RowAt.keep' {H H':AHeap} {K:Nat} {v:AVal} {l:List Int} (h:RowAt H v l) (hb:∀ b,rowBlk v = some b→b.toNat < K) (k:Keep K H H') :RowAt H' v l:=h.mono fun b e=>k.get b (hb b e)
theorem RowsAt.keep {H H':AHeap} {K:Nat} (k:Keep K H H') :∀ {vs:List AVal} {ls:List (List Int)},RowsAt H vs ls→(∀ v ∈ vs,∀ b,rowBlk v = some b→b.toNat < K)→RowsAt H' vs ls
 | [],[],_,_=>trivial
 | [],_ :: _,h,_=>h.elim
 | _ :: _,[],h,_=>h.elim
 | v :: vs,l :: ls,⟨h1,h2,h3⟩,hb=>⟨h1.keep' (hb v (by simp)) k,h2,RowsAt.keep k h3 fun u hu=>hb u (by simp [hu])⟩
theorem layRows_rows:∀ (ls:List (List Int)) (H:AHeap),RowsAt (layRows H ls).2 (layRows H ls).1 ls∧(∀ v ∈ (layRows H ls).1,∀ b,rowBlk v = some b→H.nx.toNat≤b.toNat∧b.toNat < (layRows H ls).2.nx.toNat)
 | [],H=>⟨trivial,fun v hv=>by simp [layRows] at hv⟩
 | [] :: ls,H=>by
  obtain ⟨h1,h2⟩:=layRows_rows ls H
  refine ⟨⟨.inl ⟨rfl,rfl⟩,(fun b hb=>by cases hb),h1⟩,fun v hv b hb=>?_⟩
  simp only [layRows,List.mem_cons] at hv
  rcases hv with rfl | hv
  ·cases hb
  ·exact h2 v hv b hb
 | (a :: m) :: ls,H=>by
  obtain ⟨h1,h2⟩:=layRows_rows ls (H.new (.cells (intVals (a :: m)) true false)).2
  obtain ⟨k1,_,_⟩:=layRows_at ls (H.new (.cells (intVals (a :: m)) true false)).2
  have hnx:(H.new (.cells (intVals (a :: m)) true false)).2.nx.toNat = H.nx.toNat + 1:=nx_new
  have hk:=k1.nx
  refine ⟨⟨.inr ⟨H.nx,a,m,rfl,rfl,?_⟩,fun b hb u hu e=>?_,h1⟩,fun v hv b hb=>?_⟩
  ·show PT.get H.nx (layRows _ ls).2.t = _
   rw [k1.get H.nx (by rw [hnx]; omega)]
   exact get_new
  ·cases hb
   have:=(h2 u hu _ e).1
   omega
  ·simp only [layRows,List.mem_cons] at hv ⊢
   rcases hv with rfl | hv
   ·cases hb
    exact ⟨Nat.le_refl _,by omega⟩
   ·have:=h2 v hv b hb
    exact ⟨by omega,this.2⟩
theorem layGraph_graph (H:AHeap) (m:Pos) (n:Nat) {es:List Trp} :∃ g rs,(layGraph H m n (rowsZ n es)).1 = .ptr g 0∧GraphAt (layGraph H m n (rowsZ n es)).2 g m n rs (rowsZ n es):=by
 obtain ⟨h1,h2,h3⟩:=layRows_at (rowsZ n es) H
 obtain ⟨r1,r2⟩:=layRows_rows (rowsZ n es) H
 unfold layGraph
 simp only
 generalize layRows H (rowsZ n es) = R at h1 h2 h3 r1 r2 ⊢
 obtain ⟨vs,H1⟩:=R
 simp only at h1 h2 h3 r1 r2 ⊢
 have k2:Keep H1.nx.toNat H1 (H1.new (.cells vs false false)).2:=keep_new
 have k3:Keep H1.nx.succ.toNat (H1.new (.cells vs false false)).2 ((H1.new (.cells vs false false)).2.new (.cells [.int .i64 (.ofNat n),.map m,.sl H1.nx 0 n n 0] false false)).2:=keep_new (H:=(H1.new (.cells vs false false)).2)
 have hs:=Pos.toNat_succ H1.nx
 refine ⟨H1.nx.succ,vs,rfl,⟨H1.nx,?_,?_⟩,RowsAt.keep (k2.trans (k3.mono (by omega))) r1 (fun v hv b hb=>(r2 v hv b hb).2),by rw [h2,rowsZ_length]⟩
 ·exact get_new (H:=(H1.new (.cells vs false false)).2)
 ·rw [k3.get H1.nx (by omega)]; exact get_new
theorem rowsZ_perm {n:Nat} {a b:List Trp} (h:a.Perm b) :rowsZ n a = rowsZ n b:=by
 unfold rowsZ
 exact List.map_congr_left fun i _=>rowZ_perm h
noncomputable def gCh:List AVal→AHeap→AVal × AHeap
 | [.ptr g _,x],H=>match PT.get g H.t with
  | some (.cells [.int _ z,.map m,_] _ _)=>match PT.get m H.t,tripsAt H x with
   | some (.map es),some ts=>(.tup [(layGraph (H.new (.map ((chAll (es.map tripOf) ts).map entT))).2 H.nx z.toNat (rowsZ z.toNat (chAll (es.map tripOf) ts))).1,.int .i64 0],(layGraph (H.new (.map ((chAll (es.map tripOf) ts).map entT))).2 H.nx z.toNat (rowsZ z.toNat (chAll (es.map tripOf) ts))).2)
   | _,_=>(.pnil,H)
  | _=>(.pnil,H)
 | _,H=>(.pnil,H)
def chR (H:AHeap) (n:Nat) (es ts:List Trp) :AVal × AHeap:=layGraph (H.new (.map ((chAll es ts).map entT))).2 H.nx n (rowsZ n (chAll es ts))
section
variable {P:Program} {T:Tys} {E:Env}
theorem ch_calls (hT:TOk2 T P) (hE:∀ B,EnvOk P T B E) (hm:P.follows .mixedOrders = true) (s34:PT.get (Pos.ofNat 34) E.sums = none) (f34:PT.get (Pos.ofNat 34) E.fns = some g34) (s35:PT.get (Pos.ofNat 35) E.sums = none) (f35:PT.get (Pos.ofNat 35) E.fns = some g35) (s36:PT.get (Pos.ofNat 36) E.sums = some (sOr P T 36 gOf))
  (hof:∀ {H:AHeap} {m:Pos} {n:Nat} {es:List Trp},PT.get m H.t = some (.map (es.map entT))→Edges n es→n≤100000→es.length≤1000000→sOr P T 36 gOf [.int .i64 (.ofNat n),.map m] H = some (layGraph H m n (rowsZ n es)))
  {f:FuncId} {fn:Func} (hf:P.funcs[f]? = some fn) (hname:(fn.name == "runtime.NumGoroutine") = false)
  {c0 c1 c7 c18 restC:Code} {i3 b0 b1 rn re:Nat} {oR o1 o2 oE:Oper} {opsQ opsE:Array Oper} {qs lE:List Oper}
  (hb:fn.body = some (.seq c0 (.seq c1 (.seq (.seq (.region i3 opsQ false) (.block b0 (.loop (.seq (.region rn #[o1,o2] false) (.seq (.cond (.tmp 17) .skip (.exit b0)) (.block b1 (.seq (.region re opsE false) restC))))))) (.seq c7 (.seq c18 .ret))))))
  (hnt:fn.ntmps = 75) (hres:compRes T fn.results.toList = some [(Pos.ofNat 4,none),(Pos.ofNat 5,none)])
  (k0:comp T 75 false c0 = .region g11r0) (k1:comp T 75 false c1 = .region g11r1) (k7:comp T 75 false c7 = .seq (.region g11r7) (.block 2 (.loop g11l17))) (k18:comp T 75 false c18 = .region g11r18) (kr:comp T 75 false restC = .region g11r5)
  (hopsQ:opsQ.toList = qs ++ [oR]) (kq:compOpers T 75 opsQ.toList qs = some [⟨some (Pos.ofNat 11),.move (.t (Pos.ofNat 0)),none⟩,⟨some (Pos.ofNat 12),.nilCheck (.t (Pos.ofNat 11)),none⟩,⟨some (Pos.ofNat 13),.fieldAddr 1 (.t (Pos.ofNat 12)),none⟩,⟨some (Pos.ofNat 14),.load1 (.t (Pos.ofNat 13)),none⟩]) (hopsE:opsE.toList = oE :: lE)
  (kE:compOpers T 75 opsE.toList lE = some [⟨some (Pos.ofNat 19),.extract (.t (Pos.ofNat 18)) 0,none⟩,⟨some (Pos.ofNat 7),.alloc [.int .i64 (.ofNat 0),.int .i64 (.ofNat 0)],none⟩,⟨none,.store 2 (.t (Pos.ofNat 7)) (.t (Pos.ofNat 19)),none⟩])
  {tm kt et:TypeId} (hR:oR.op = .range tm (.tmp 14)) (hRd:oR.dst = some 15) (hRg:oR.guard = none) (hRt:P.underlying tm = some (.map kt et)) (h1:o1.op = .next (.tmp 15) false) (h1d:o1.dst = some 16) (h1g:o1.guard = none) (h2:o2.op = .extract (.tmp 16) 0) (h2d:o2.dst = some 17) (h2g:o2.guard = none)
  (hE1:oE.op = .entry (.tmp 15)) (hEd:oE.dst = some 18) (hEg:oE.guard = none) {B N n:Nat} {g:Pos} {x:AVal} {φ:Emb} {H:AHeap} {w:World} {args':Array Value} {es ts:List Trp} (hH:HRel T B φ H w) (hl:LRel φ [.ptr g 0,x] args'.toList) (hG:GraphH N H (.ptr g 0) n es) {K:Nat} (hx:TReads K H x ts) (hw:∀ t ∈ ts,Within n t) (hn:n≤1000) (hel:es.length≤100000) (htl:ts.length≤100000) :
  Returns P T B φ H w f args' (.tup [(chR H n es ts).1,.int .i64 0]) (chR H n es ts).2:=by
 obtain ⟨hok,g',m,tb,vs,e0,og,ot,om,_,_,_,ggl,_,oml⟩:=hG
 cases e0
 let ps:List Pos:=g :: m :: (match x with | .sl b _ _ _ _=>[b] | _=>[])
 let t0:=partOf H ps
 have hsub:∀ p o0,PT.get p t0 = some o0→∃ o,PT.get p H.t = some o∧RoObj o o0:=fun p o0 hp=>by
  obtain ⟨o,h1,h2⟩:=partOf_sub H ps p o0 hp
  exact ⟨o,h1,roOf_ok h2⟩
 have tg:PT.get g t0 = some (.cells [.int .i64 (.ofNat n),.map m,.sl tb 0 n n 0] false true):=partOf_get H og rfl (by simp [ps])
 have tm0:PT.get m t0 = some (.rmap (es.map entT)):=partOf_get H om rfl (by simp [ps])
 have hx0:TReads H.nx.toNat ⟨t0,H.nx⟩ x ts:=by
  rcases hx with h | ⟨b,o,cap,sz,rfl,h1,h2,h3⟩
  ·exact .inl h
  ·have hb:∃ l op ro,PT.get b H.t = some (.cells l op ro):=by
    unfold hloadN at h1
    split at h1
    ·rename_i l op ro hb; exact ⟨l,op,ro,hb⟩
    ·cases h1
   obtain ⟨l,op,ro,hb⟩:=hb
   have tb0:PT.get b t0 = some (.cells l false true):=partOf_get H hb rfl (by simp [ps])
   refine .inr ⟨b,o,cap,sz,rfl,?_,hH.dom b (by rw [hb]; simp),h3⟩
   unfold hloadN at h1 ⊢
   rw [hb] at h1
   rw [tb0]
   exact h1
 have hH0:=hH.part2 hsub
 have hsound:=fun n=>sound hT (hE w.heap.size) hm n (P:=P) (T:=T)
 have hgm:g ≠ m:=fun e=>by rw [e,tm0] at tg; cases tg
 have hbm:∀ b o k cap sz,x = .sl b o k cap sz→ts ≠ []→b ≠ m:=by
  intro b o k cap sz e hne e2
  rcases hx0 with ⟨h,h'⟩ | ⟨b',o',cap',sz',h,h1,_⟩
  ·exact hne h'
  ·rw [e] at h
   cases h
   unfold hloadN at h1
   rw [e2,tm0] at h1
   cases h1
 refine returns_graph2 (t0:=t0) hH (run_callFunc hf hname hb) (CallsIn.mono (ends_of_wp (R:=fun v H'=>∃ (g m:Pos) (rs:List AVal) (ms:List Trp),v = .tup [.ptr g 0,.int .i64 0]∧GraphAt H' g m n rs (rowsZ n (chAll es ts))∧PT.get m H'.t = some (.map (ms.map entT))∧ms.Perm (chAll es ts)) hT hf hb hres ?_) fun e w' h=>h)
 rw [hnt]
 have hs0:St T w.heap.size 75 φ ⟨t0,H.nx⟩ w (fun t H1=>tget t (Pos.ofNat 0) = .ptr g 0∧tget t (Pos.ofNat 1) = x∧H1 = ⟨t0,H.nx⟩) { tmps:=args' ++ Array.replicate (75 - args'.size) undef,defers:=[] } w :=
  ⟨tput (tput .l (some (Pos.ofNat 0)) (.ptr g 0)) (some (Pos.ofNat 1)) x,⟨t0,H.nx⟩,φ,⟨by simp only [tget_puts,Nat.reduceLT,Nat.reduceEqDiff,↓reduceIte],by simp only [tget_puts,Nat.reduceLT,Nat.reduceEqDiff,↓reduceIte],rfl⟩,Sim.refl hH0,act_start (args:=[.ptr g 0,x]) rfl hl (by decide)⟩
 have p0:=piece hsound k0 (ex:=.normal) (Q':=fun t H1=>tget t (Pos.ofNat 0) = .ptr g 0∧tget t (Pos.ofNat 1) = x∧H1 = ⟨t0,H.nx⟩) (by
  rintro t H1 ⟨g0,g1,g2⟩
  refine W.region ?_
  simp (maxDischargeDepth:=9) only [auW,auC,auT,lget,BEq.rfl,beq_self_eq_true,decide_true,decide_false,reduceCtorEq,Nat.reduceLT,Nat.reduceEqDiff,↓reduceIte,g11r0]
  exact ⟨by trivial,by trivial,by simp only [tget_puts,Nat.reduceLT,Nat.reduceEqDiff,↓reduceIte,g0],by simp only [tget_puts,Nat.reduceLT,Nat.reduceEqDiff,↓reduceIte,g1],g2⟩) hs0
 refine wpIn_seq (wpIn_mono p0 ?_)
 rintro e a1 w1 ⟨rfl,hs1⟩
 simp only [exitOf,Exit.then]
 have hxm:∀ {H1:AHeap},(∀ p,p.toNat < H.nx.toNat→p ≠ m→PT.get p H1.t = PT.get p t0)→TReads H.nx.toNat H1 x ts:=by
  intro H1 hk
  rcases hx0 with h | ⟨b,o,cap,sz,h,h1,h2,h3⟩
  ·exact .inl h
  ·by_cases hne:ts = []
   ·subst hne
    refine .inr ⟨b,o,cap,sz,h,?_,h2,h3⟩
    by_cases hbm':b = m
    ·exfalso
     unfold hloadN at h1
     rw [hbm'] at h1
     rw [show PT.get m (⟨t0,H.nx⟩ :AHeap).t = _ from tm0] at h1
     cases h1
    ·unfold hloadN at h1 ⊢
     rw [hk b h2 hbm']
     exact h1
   ·refine .inr ⟨b,o,cap,sz,h,?_,h2,h3⟩
    unfold hloadN at h1 ⊢
    rw [hk b h2 (hbm b o _ cap sz h hne)]
    exact h1
 have p1:=piece hsound k1 (ex:=.normal) (Q':=fun t H1=>∃ m2,tget t (Pos.ofNat 0) = .ptr g 0∧tget t (Pos.ofNat 1) = x∧tget t (Pos.ofNat 6) = .map m2∧PT.get m2 H1.t = some (.map [])∧H.nx.toNat≤m2.toNat∧m2.toNat < H1.nx.toNat∧Keep H.nx.toNat ⟨t0,H.nx⟩ H1) (by
  rintro t H1 ⟨g0,g1,g2⟩
  subst g2
  refine W.region ?_
  simp (maxDischargeDepth:=9) only [auW,auC,auT,lget,BEq.rfl,beq_self_eq_true,decide_true,decide_false,reduceCtorEq,Nat.reduceLT,Nat.reduceEqDiff,↓reduceIte,g11r1]
  exact ⟨by trivial,by trivial,H.nx,by simp only [tget_puts,Nat.reduceLT,Nat.reduceEqDiff,↓reduceIte,g0],by simp only [tget_puts,Nat.reduceLT,Nat.reduceEqDiff,↓reduceIte,g1],by simp only [tget_puts,Nat.reduceLT,Nat.reduceEqDiff,↓reduceIte],get_new (H:=⟨t0,H.nx⟩),Nat.le_refl _,by show H.nx.toNat < H.nx.succ.toNat; rw [Pos.toNat_succ]; omega,keep_new (H:=⟨t0,H.nx⟩)⟩) hs1
 refine wpIn_seq (wpIn_mono p1 ?_)
 rintro e a2 w2 ⟨rfl,hs2⟩
 simp only [exitOf,Exit.then]
 have p2:=range_mapQ hT (hE w.heap.size) hsound hopsQ hopsE kr kq kE (tM:=14) (tR:=15) (tN:=16) (tB:=17) (tE:=18) hR hRd hRg hRt h1 h1d h1g h2 h2d h2g hE1 hEd hEg (by decide) (by decide) (by decide) (i0:=i3) (rn:=rn) (re:=re) (b0:=b0) (b1:=b1)
  (J:=fun mo pr ents t H1=>∃ (m2:Pos) (done:List Trp),mo = some m∧(done.map entT ++ ents).Perm (es.map entT)∧tget t (Pos.ofNat 0) = .ptr g 0∧tget t (Pos.ofNat 1) = x∧tget t (Pos.ofNat 6) = .map m2∧PT.get m2 H1.t = some (.map (done.map entT))∧H.nx.toNat≤m2.toNat∧m2.toNat < H1.nx.toNat∧H.nx.toNat≤pr.toNat∧(∀ p,p.toNat < H.nx.toNat→p ≠ m→PT.get p H1.t = PT.get p t0)∧pr.toNat < H1.nx.toNat) ?_ ?_ ?_ ?_ hs2
 rotate_left
 ·rintro t H1 ⟨m2,g0,g1,g6,gm2,gml,gmu,gk⟩
  have gg:PT.get g H1.t = some (.cells [.int .i64 (.ofNat n),.map m,.sl tb 0 n n 0] false true):=by rw [gk.get g ggl]; exact tg
  have gm:PT.get m H1.t = some (.rmap (es.map entT)):=by rw [gk.get m oml]; exact tm0
  have ld:hload H1 g (Nat.add 0 1) = some (.map m):=by rw [hload_at gg (by simp)]; rfl
  have hxl:=gk.nx
  refine ⟨_,by simp only [qops,quiet,AOpnd.ev,tget_puts,Nat.reduceLT,Nat.reduceEqDiff,↓reduceIte,g0,ld]; rfl,.inr ⟨m,es.map entT,by simp only [tget_puts,Nat.reduceLT,Nat.reduceEqDiff,↓reduceIte],by rw [gm]; rfl,fun ob1 ob2=>⟨m2,[],rfl,by simp,?_,?_,?_,?_,gml,?_,hxl,fun p hp hpm=>?_,by show H1.nx.toNat < H1.nx.succ.toNat; rw [Pos.toNat_succ]; omega⟩⟩⟩
  ·simp only [tget_puts,Nat.reduceLT,Nat.reduceEqDiff,↓reduceIte,g0]
  ·simp only [tget_puts,Nat.reduceLT,Nat.reduceEqDiff,↓reduceIte,g1]
  ·simp only [tget_puts,Nat.reduceLT,Nat.reduceEqDiff,↓reduceIte,g6]
  ·have h1:m2 ≠ m:=fun e=>by rw [e] at gml; omega
   rw [get_new_other (H:=H1.upd m (.raw ob1)) (fun e=>by rw [e] at gmu; exact Nat.lt_irrefl _ gmu),get_upd_other (fun e=>h1 e.symm)]
   exact gm2
  ·show m2.toNat < H1.nx.succ.toNat; rw [Pos.toNat_succ]; omega
  ·rw [get_new_other (H:=H1.upd m (.raw ob1)) (fun e=>by rw [e] at hp; have:(H1.upd m (.raw ob1)).nx.toNat = H1.nx.toNat:=rfl; omega),get_upd_other (fun e=>hpm e.symm),gk.get p hp]
 ·rintro mo pr l1 l2 t H1 ⟨m2,done,j1,j2,j3⟩ hp
  exact ⟨m2,done,j1,(hp.symm.append_left _).trans j2,j3⟩
 ·rintro mo pr l t H1 ob1 ob2 ⟨m2,done,j1,j2,j3,j4,j5,j6,j7,j8,j9,j10,j11⟩ hpr
  refine ⟨m2,done,j1,j2,j3,j4,j5,get_upd_raw j6 (by simp) hpr,j7,j8,j9,fun p hp hpm=>?_,j11⟩
  rw [get_upd_other (fun e=>by rw [e] at j9; omega)]
  exact j10 p hp hpm
 ·rintro m' pr k v l t H1 ⟨m2,done,j1,j2,j3,j4,j5,j6,j7,j8,j9,j10,hprl⟩ h15 hpr hmr
  cases j1
  obtain ⟨px,hpr⟩:=hpr
  obtain ⟨mx,hmr⟩:=hmr
  obtain ⟨y,hy,hye⟩:=List.mem_map.1 (j2.mem_iff.1 (show (k,v) ∈ done.map entT ++ (k,v) :: l by simp))
  have hke:k = (entT y).1:=by rw [hye]
  have hve:v = (entT y).2:=by rw [hye]
  subst hke hve
  have hnew:keyT y ∉ done.map keyT∧(done.map keyT).Nodup:=by
   have h1:∃ l':List Trp,l = l'.map entT:=⟨l.map tripOf,by
    rw [List.map_map]
    conv=>lhs; rw [← List.map_id l]
    refine List.map_congr_left fun p hp=>?_
    obtain ⟨z,_,hz⟩:=List.mem_map.1 (j2.mem_iff.1 (show p ∈ done.map entT ++ ((entT y).1,(entT y).2) :: l by simp [hp]))
    rw [← hz]
    rfl⟩
   obtain ⟨l',rfl⟩:=h1
   have h2:(done ++ y :: l').Perm es:=ent_inj (by simpa using j2)
   have h3:=((h2.map keyT).nodup_iff).2 hok.nd
   rw [List.map_append,List.map_cons,List.nodup_append] at h3
   exact ⟨fun hm=>h3.2.2 _ hm _ List.mem_cons_self rfl,h3.1⟩
  obtain ⟨H2,s1,v1,k1,n1⟩:=var2 (H:=H1) y.1 y.2.1
  have hfl:=hok.fl y hy
  have hput:=putKey_ent (H:=H2) (t:=y) hnew.2
  rw [putT_new hnew.1] at hput
  have hm2':PT.get m2 H2.t = some (.map (done.map entT)):=by rw [k1.get m2 j8]; exact j6
  have n1':H2.nx.toNat = H1.nx.toNat + 1:=by rw [n1,Pos.toNat_succ]
  have hld:hloadN H2 H1.nx 0 2 = some [.int .i64 y.1,.int .i64 y.2.1]:=by
   rw [hloadN_at v1 (by simp)]; rfl
  have hpm2:pr ≠ m2:=fun e=>by rw [e,j6] at hpr; cases hpr
  have hmm2:m ≠ m2:=fun e=>by rw [e,j6] at hmr; cases hmr
  simp (maxDischargeDepth:=9) only [auW,auC,auT,lget,BEq.rfl,beq_self_eq_true,decide_true,decide_false,reduceCtorEq,Nat.reduceLT,Nat.reduceEqDiff,↓reduceIte,entT]
  refine wo_store (b:=H1.nx) (o:=0) (vs:=[.int .i64 y.1,.int .i64 y.2.1]) (by simp only [auT,Nat.reduceLT,Nat.reduceEqDiff,↓reduceIte]) (by simp only [auT,Nat.reduceLT,Nat.reduceEqDiff,↓reduceIte]; rfl) rfl s1 ?_
  simp (maxDischargeDepth:=9) only [auW,auC,auT,lget,BEq.rfl,beq_self_eq_true,decide_true,decide_false,reduceCtorEq,Nat.reduceLT,Nat.reduceEqDiff,↓reduceIte]
  refine W.region ?_
  simp (maxDischargeDepth:=9) only [auW,auC,auT,lget,BEq.rfl,beq_self_eq_true,decide_true,decide_false,reduceCtorEq,Nat.reduceLT,Nat.reduceEqDiff,↓reduceIte,g11r5,j5,fLoadN,hld]
  refine wo_mapUpdate (b:=m2) (kv:=(entT y).1) (vv:=.bool true) (by simp only [auT,Nat.reduceLT,Nat.reduceEqDiff,↓reduceIte]) hm2' (by simp only [auT,Nat.reduceLT,Nat.reduceEqDiff,↓reduceIte]; rfl) (by simp only [auT,Nat.reduceLT,Nat.reduceEqDiff,↓reduceIte]) rfl (by rw [← hfl]; exact hput) ?_
  simp (maxDischargeDepth:=9) only [auW,auC,auT,lget,BEq.rfl,beq_self_eq_true,decide_true,decide_false,reduceCtorEq,Nat.reduceLT,Nat.reduceEqDiff,↓reduceIte]
  refine ⟨by trivial,by trivial,⟨m2,done ++ [y],by trivial,by simpa using j2,?_,?_,?_,get_upd,j7,by show m2.toNat < H2.nx.toNat; omega,j9,fun p hp hpm=>?_,by show pr.toNat < H2.nx.toNat; omega⟩,?_,?_,?_⟩
  ·simp only [tget_puts,Nat.reduceLT,Nat.reduceEqDiff,↓reduceIte,j3]
  ·simp only [tget_puts,Nat.reduceLT,Nat.reduceEqDiff,↓reduceIte,j4]
  ·simp only [tget_puts,Nat.reduceLT,Nat.reduceEqDiff,↓reduceIte,j5]
  ·rw [get_upd_other (fun e=>by rw [e] at j7; omega),k1.get p (by omega)]
   exact j10 p hp hpm
  ·simp only [tget_puts,Nat.reduceLT,Nat.reduceEqDiff,↓reduceIte,h15]
  ·rw [get_upd_other (fun e=>hpm2 e.symm),k1.get pr hprl]
  ·rw [get_upd_other (fun e=>hmm2 e.symm),k1.get m (by omega)]
 refine wpIn_seq (wpIn_mono p2 ?_)
 rintro e a3 w3 ⟨rfl,hs3⟩
 simp only [exitOf,Exit.then]
 have p7:=piece hsound k7 (ex:=.normal) (Q':=fun t H1=>∃ (m2:Pos) (done:List Trp),done.Perm es∧tget t (Pos.ofNat 0) = .ptr g 0∧tget t (Pos.ofNat 6) = .map m2∧PT.get m2 H1.t = some (.map ((chAll done ts).map entT))∧m2.toNat < H1.nx.toNat∧PT.get g H1.t = some (.cells [.int .i64 (.ofNat n),.map m,.sl tb 0 n n 0] false true)) (by
  rintro t H1 ⟨mo,pr,t1,⟨m2,done,j1,j2,j3,j4,j5,j6,j7,j8,j9,j10,j11⟩,rfl⟩
  have hperm:done.Perm es:=ent_inj (by simpa using j2)
  have hx1:=hxm j10
  have gg:PT.get g H1.t = some (.cells [.int .i64 (.ofNat n),.map m,.sl tb 0 n n 0] false true):=by rw [j10 g ggl hgm]; exact tg
  refine W.seq (W.region ?_)
  simp (maxDischargeDepth:=9) only [auW,auC,auT,lget,BEq.rfl,beq_self_eq_true,decide_true,decide_false,reduceCtorEq,Nat.reduceLT,Nat.reduceEqDiff,↓reduceIte,g11r7,j4,hx1.fLen]
  simp only [andThen]
  refine W.block (W.mono (ch_loop s34 f34 s35 f35 hx1 hw (by omega) gg ggl j7 (hok.perm hperm.symm) ts.length _ _ ⟨0,by omega,?_,?_,?_,?_,?_,j6,j8,Keep.refl _ _⟩) ?_)
  ·simp only [tget_puts,Nat.reduceLT,Nat.reduceEqDiff,↓reduceIte,j3]
  ·simp only [tget_puts,Nat.reduceLT,Nat.reduceEqDiff,↓reduceIte,j5]
  ·simp only [tget_puts,Nat.reduceLT,Nat.reduceEqDiff,↓reduceIte]
  ·simp only [tget_puts,Nat.reduceLT,Nat.reduceEqDiff,↓reduceIte]
  ·simp only [tget_puts,Nat.reduceLT,Nat.reduceEqDiff,↓reduceIte]
  rintro e ⟨t',ds⟩ H' ⟨rfl,hd,q0,q6,qm,ql,qk⟩
  exact ⟨rfl,hd,m2,done,hperm,q0,q6,qm,ql,by rw [qk.get g ggl]; exact gg⟩) hs3
 refine wpIn_seq (wpIn_mono p7 ?_)
 rintro e a4 w4 ⟨rfl,hs4⟩
 simp only [exitOf,Exit.then]
 have p18:=piece hsound k18 (ex:=.normal) (Q':=fun t H1=>∃ (m2:Pos) (done:List Trp) (H3:AHeap),done.Perm es∧H1 = (layGraph H3 m2 n (rowsZ n (chAll done ts))).2∧tget t (Pos.ofNat 4) = (layGraph H3 m2 n (rowsZ n (chAll done ts))).1∧tget t (Pos.ofNat 5) = .int .i64 (.ofNat 0)∧PT.get m2 H3.t = some (.map ((chAll done ts).map entT))∧m2.toNat < H3.nx.toNat) (by
  rintro t H1 ⟨m2,done,hperm,g0,g6,gm,gml,gg⟩
  have ld:hload H1 g (0 + 0) = some (.int .i64 (.ofNat n)):=by rw [hload_at gg (by simp)]; rfl
  have hE2:Edges n (chAll done ts):=(hok.perm hperm.symm).all hw
  have hlen:=chAll_length ts done
  have hpl:=hperm.length_eq
  have hc:CallS E 36 [.int .i64 (.ofNat n),.map m2] H1 (layGraph H1 m2 n (rowsZ n (chAll done ts))).1 (layGraph H1 m2 n (rowsZ n (chAll done ts))).2:=CallS.sum (by decide) s36 (hof gm hE2 (by omega) (by omega))
  refine W.region ?_
  simp (maxDischargeDepth:=9) only [auW,auC,auT,lget,BEq.rfl,beq_self_eq_true,decide_true,decide_false,reduceCtorEq,Nat.reduceLT,Nat.reduceEqDiff,↓reduceIte,g11r18,g0,g6,ld]
  refine wo_callE (hc) (by simp only [auT,Nat.reduceLT,Nat.reduceEqDiff,↓reduceIte]) ?_
  simp (maxDischargeDepth:=9) only [auW,auC,auT,lget,BEq.rfl,beq_self_eq_true,decide_true,decide_false,reduceCtorEq,Nat.reduceLT,Nat.reduceEqDiff,↓reduceIte]
  exact ⟨by trivial,by trivial,m2,done,H1,hperm,by trivial,by simp only [tget_puts,Nat.reduceLT,Nat.reduceEqDiff,↓reduceIte],by simp only [tget_puts,Nat.reduceLT,Nat.reduceEqDiff,↓reduceIte],gm,gml⟩) hs4
 refine wpIn_seq (wpIn_mono p18 ?_)
 rintro e a5 w5 ⟨rfl,hs5⟩
 simp only [exitOf,Exit.then]
 refine wpIn_ret ⟨.inr rfl,hs5.mono ?_⟩
 rintro t H1 ⟨m2,done,H3,hperm,rfl,g4,g5,gm,gml⟩
 obtain ⟨g',rs,e1,hG⟩:=layGraph_graph H3 m2 n (es:=chAll done ts)
 have hcp:(chAll done ts).Perm (chAll es ts):=chAll_perm ts hperm (hok.perm hperm.symm) hw
 have hE2:Edges n (chAll done ts):=(hok.perm hperm.symm).all hw
 obtain ⟨_,hk⟩:=layGraph_at hE2 gm gml
 refine ⟨[(layGraph H3 m2 n (rowsZ n (chAll done ts))).1,.int .i64 (.ofNat 0)],by simp [resultA,g4,g5],g',m2,rs,chAll done ts,?_,?_,?_,hcp⟩
 ·rw [e1]; rfl
 ·rw [← rowsZ_perm hcp]; exact hG
 ·rw [hk.get m2 gml]; exact gm
end
end Go.Am
end

section
namespace Go.Am
open Go Go.RowKit
theorem GraphH.mono {N M:Nat} {H:AHeap} {v:AVal} {n:Nat} {es:List Trp} (h:GraphH N H v n es) (hM:M≤N) :GraphH M H v n es:=by
 obtain ⟨ho,g,m,tb,vs,h1,h2,h3,h4,h5,h6,h7,h8⟩:=h
 exact ⟨ho,g,m,tb,vs,h1,h2,h3,h4,h5,h6,by omega,h8⟩
theorem trips_of_reads {N:Nat} {H:AHeap} {x:AVal} {ts:List Trp} (hx:TReads N H x ts) :tripsAt H x = some ts:=by
 rcases hx with ⟨rfl,rfl⟩ | ⟨b,o,cap,sz,rfl,h1,h2,h3,h4⟩
 ·rfl
 ·have e1:Nat.ble ts.length cap = true:=ble_t h4
  have e2:hloadN H b o (Nat.mul ts.length 3) = some (tripVals ts):=h1
  rcases h3 with rfl | rfl <;> simp only [tripsAt,e1,e2,tripsOf_vals]
theorem gCh_eq {N K n:Nat} {H:AHeap} {g:Pos} {x:AVal} {es ts:List Trp} (hG:GraphH N H (.ptr g 0) n es) (hx:TReads K H x ts) :gCh [.ptr g 0,x] H = (.tup [(chR H n es ts).1,.int .i64 0],(chR H n es ts).2):=by
 obtain ⟨hok,g',m,tb,vs,e0,og,ot,om,_⟩:=hG
 cases e0
 simp only [gCh,og,om,trips_of_reads hx,tripOf_ent]
 rfl
theorem chR_at {N n:Nat} {H:AHeap} {v:AVal} {es ts:List Trp} (hG:GraphH N H v n es) (hw:∀ t ∈ ts,Within n t) :GraphH H.nx.toNat (chR H n es ts).2 (chR H n es ts).1 n (chAll es ts)∧Keep H.nx.toNat H (chR H n es ts).2:=by
 have hn:(H.new (.map ((chAll es ts).map entT))).2.nx.toNat = H.nx.toNat + 1:=nx_new
 obtain ⟨h1,h2⟩:=layGraph_at (H:=(H.new (.map ((chAll es ts).map entT))).2) (m:=H.nx) (hG.ok.all hw) get_new (by rw [hn]; omega)
 exact ⟨h1.mono (by rw [hn]; omega),keep_new.trans (h2.mono (by rw [hn]; omega))⟩
structure GrC (E:Env) :Prop where
 of:∀ {H:AHeap} {m:Pos} {n:Nat} {es:List Trp},PT.get m H.t = some (.map (es.map entT))→Edges n es→n≤100000→es.length≤1000000→CallS E 36 [.int .i64 (.ofNat n),.map m] H (layGraph H m n (rowsZ n es)).1 (layGraph H m n (rowsZ n es)).2
 ch:∀ {N K n:Nat} {H:AHeap} {v x:AVal} {es ts:List Trp},GraphH N H v n es→TReads K H x ts→(∀ t ∈ ts,Within n t)→n≤1000→es.length≤100000→ts.length≤100000→∃ v' H',CallS E 11 [v,x] H (.tup [v',.int .i64 0]) H'∧GraphH H.nx.toNat H' v' n (chAll es ts)∧Keep H.nx.toNat H H'
def addT (p:Prr) :Trp:=(p.1,p.2,false)
theorem chT_add (m:List Trp) (p:Prr) :chT m (addT p) = (match eqI p.1 p.2 with | true=>m | false=>putT (normT (p.1,p.2,true)) m):=rfl
theorem pcell_at {H:AHeap} {b:Pos} {o:Nat} {p:Prr} (h:hloadN H b o 2 = some (cell2 p)) :hload H b (o + 0) = some (.int .i64 p.1)∧hload H b (o + 1) = some (.int .i64 p.2):=⟨hload_sub h (i:=0) rfl,hload_sub h (i:=1) rfl⟩
section
variable {E:Env}
theorem gmake_loop (C:CodeOkC E) {N:Nat} {H0:AHeap} {x:AVal} {ps:List Prr} (hx:PReads N H0 x ps) {n:Nat} (hw:∀ t ∈ ps.map addT,Within n t) (hl:ps.length≤1000000) {m2:Pos} (hm2:N≤m2.toNat) {ro:Option Pos} :
  ∀ (q:Nat) (t:PT AVal) (H:AHeap),(∃ i,i + q = ps.length∧tget t (Pos.ofNat 0) = .int .i64 (.ofNat n)∧tget t (Pos.ofNat 6) = .map m2∧tget t (Pos.ofNat 16) = x∧tget t (Pos.ofNat 17) = .int .i64 (.ofNat ps.length)∧tget t (Pos.ofNat 18) = .int .i64 (.ofNat i)∧PT.get m2 H.t = some (.map ((chAll [] ((ps.take i).map addT)).map entT))∧m2.toNat < H.nx.toNat∧Keep N H0 H) →
  W E (.loop g24l12) ro ⟨t,[]⟩ H (fun e a H'=>e = .exit 0∧a.ds = []∧tget a.t (Pos.ofNat 0) = .int .i64 (.ofNat n)∧tget a.t (Pos.ofNat 6) = .map m2∧PT.get m2 H'.t = some (.map ((chAll [] (ps.map addT)).map entT))∧m2.toNat < H'.nx.toNat∧Keep N H0 H'):=by
 refine W.loop_inv (Q:=fun e a H'=>e = .exit 0∧a.ds = []∧tget a.t (Pos.ofNat 0) = .int .i64 (.ofNat n)∧tget a.t (Pos.ofNat 6) = .map m2∧PT.get m2 H'.t = some (.map ((chAll [] (ps.map addT)).map entT))∧m2.toNat < H'.nx.toNat∧Keep N H0 H') _ ?_
 rintro q t H ⟨i,hi,h0,h6,h16,h17,h18,hm,hm1,hk⟩
 refine W.seq (W.region ?_)
 simp (maxDischargeDepth:=9) only [auW,auC,auT,lget,BEq.rfl,beq_self_eq_true,decide_true,decide_false,reduceCtorEq,Nat.reduceLT,Nat.reduceEqDiff,↓reduceIte,g24r5,h17,h18]
 refine W.seq (W.cond_if (p:=i < ps.length) (by simp [AOpnd.ev,tget_puts]) (fun hlt=>W.skip ?_) (fun hge=>W.exit ?_))
 rotate_left
 ·rw [List.take_of_length_le (by omega)] at hm
  exact ⟨by trivial,by trivial,by simp only [tget_puts,Nat.reduceLT,Nat.reduceEqDiff,↓reduceIte,h0],by simp only [tget_puts,Nat.reduceLT,Nat.reduceEqDiff,↓reduceIte,h6],hm,hm1,hk⟩
 simp only [andThen]
 obtain ⟨b,o,e1,e2,hbN⟩:=(hx.keep hk (Nat.le_refl _)).fIdx hlt
 refine W.seq (W.block (W.seq (W.region ?_)))
 obtain ⟨H1,s1,v1,k1,hnx1⟩:=var2 (H:=H) ps[i].1 ps[i].2
 have hmne:m2 ≠ H.nx:=fun e=>by rw [e] at hm1; omega
 have hm':PT.get m2 H1.t = some (.map ((chAll [] ((ps.take i).map addT)).map entT)):=by rw [k1.get m2 hm1]; exact hm
 simp (maxDischargeDepth:=9) only [auW,auC,auT,lget,BEq.rfl,beq_self_eq_true,decide_true,decide_false,reduceCtorEq,Nat.reduceLT,Nat.reduceEqDiff,↓reduceIte,g24r6,h16,h18,e1,fLoadN,e2]
 refine wo_store (b:=H.nx) (o:=0) (vs:=cell2 ps[i]) (by simp only [auT,Nat.reduceLT,Nat.reduceEqDiff,↓reduceIte]) (by simp only [auT,Nat.reduceLT,Nat.reduceEqDiff,↓reduceIte]; rfl) rfl s1 ?_
 simp (maxDischargeDepth:=9) only [auW,auC,auT,lget,BEq.rfl,beq_self_eq_true,decide_true,decide_false,reduceCtorEq,Nat.reduceLT,Nat.reduceEqDiff,↓reduceIte]
 simp only [andThen]
 have hnN:N≤H.nx.toNat:=by have:=hk.nx; omega
 have hk1:Keep N H0 H1:=hk.trans (k1.mono hnN)
 have hwi:=hw (addT ps[i]) (List.mem_map.2 ⟨_,List.getElem_mem hlt,rfl⟩)
 obtain ⟨a,c,ha,hc,han,hcn⟩:=hwi.nat
 have ha:ps[i].1 = Int.ofNat a:=ha
 have hc:ps[i].2 = Int.ofNat c:=hc
 have l0:hload H1 H.nx (0 + 0) = some (.int .i64 (.ofNat a)):=by rw [hload_at v1 (by simp),← ha]; rfl
 have l1:hload H1 H.nx (0 + 1) = some (.int .i64 (.ofNat c)):=by rw [hload_at v1 (by simp),← hc]; rfl
 have hn1:H1.nx.toNat = H.nx.toNat + 1:=by rw [hnx1,Pos.toNat_succ]
 have c34a:=is_ok (E:=E) (C.s _ rfl) C.f34 (H:=H1) han
 have c34b:=is_ok (E:=E) (C.s _ rfl) C.f34 (H:=H1) hcn
 refine W.seq (W.seq (W.region ?_))
 simp (maxDischargeDepth:=9) only [auW,auC,auT,lget,BEq.rfl,beq_self_eq_true,decide_true,decide_false,reduceCtorEq,Nat.reduceLT,Nat.reduceEqDiff,↓reduceIte,g24r7,h0,l0,l1]
 refine wo_callE (c34a) (by simp only [auT,Nat.reduceLT,Nat.reduceEqDiff,↓reduceIte]) ?_
 simp (maxDischargeDepth:=9) only [auW,auC,auT,lget,BEq.rfl,beq_self_eq_true,decide_true,decide_false,reduceCtorEq,Nat.reduceLT,Nat.reduceEqDiff,↓reduceIte,h0,l0,l1]
 refine wo_callE (c34b) (by simp only [auT,Nat.reduceLT,Nat.reduceEqDiff,↓reduceIte]) ?_
 simp (maxDischargeDepth:=9) only [auW,auC,auT,lget,BEq.rfl,beq_self_eq_true,decide_true,decide_false,reduceCtorEq,Nat.reduceLT,Nat.reduceEqDiff,↓reduceIte]
 simp only [andThen]
 refine W.cond_false (by simp [AOpnd.ev,tget_puts]) (W.skip ?_)
 simp only [andThen]
 refine W.seq (W.region ?_)
 simp (maxDischargeDepth:=9) only [auW,auC,auT,lget,BEq.rfl,beq_self_eq_true,decide_true,decide_false,reduceCtorEq,Nat.reduceLT,Nat.reduceEqDiff,↓reduceIte,g24r9,l0,l1]
 simp only [andThen]
 have hsn:chAll [] ((ps.take (i + 1)).map addT) = chT (chAll [] ((ps.take i).map addT)) (addT ps[i]):=by
  rw [List.take_succ_eq_append_getElem hlt,List.map_append,List.map_singleton,chAll_snoc]
 have hE:Edges n (chAll [] ((ps.take i).map addT)):=Edges.all ⟨by simp,by simp,by simp⟩ fun t ht=>by
  obtain ⟨p,hp,rfl⟩:=List.mem_map.1 ht
  exact hw _ (List.mem_map.2 ⟨p,List.mem_of_mem_take hp,rfl⟩)
 have fin:∀ (t':PT AVal) (H2:AHeap),Pres [0,6,16,17,18] t t'→PT.get m2 H2.t = some (.map ((chT (chAll [] ((ps.take i).map addT)) (addT ps[i])).map entT))→m2.toNat < H2.nx.toNat→Keep N H0 H2 →
   W E (.region g24r11) ro ⟨t',[]⟩ H2 (loopPost [] (fun q t H=>∃ i,i + q = ps.length∧tget t (Pos.ofNat 0) = .int .i64 (.ofNat n)∧tget t (Pos.ofNat 6) = .map m2∧tget t (Pos.ofNat 16) = x∧tget t (Pos.ofNat 17) = .int .i64 (.ofNat ps.length)∧tget t (Pos.ofNat 18) = .int .i64 (.ofNat i)∧PT.get m2 H.t = some (.map ((chAll [] ((ps.take i).map addT)).map entT))∧m2.toNat < H.nx.toNat∧Keep N H0 H) (fun e a H'=>e = .exit 0∧a.ds = []∧tget a.t (Pos.ofNat 0) = .int .i64 (.ofNat n)∧tget a.t (Pos.ofNat 6) = .map m2∧PT.get m2 H'.t = some (.map ((chAll [] (ps.map addT)).map entT))∧m2.toNat < H'.nx.toNat∧Keep N H0 H') q):=by
  intro t' H2 hp k1 k2 k3
  have p0:=(hp 0 (by simp)).trans h0
  have p6:=(hp 6 (by simp)).trans h6
  have p16:=(hp 16 (by simp)).trans h16
  have p17:=(hp 17 (by simp)).trans h17
  have p18:=(hp 18 (by simp)).trans h18
  refine W.region ?_
  simp (maxDischargeDepth:=9) only [auW,auC,auT,lget,BEq.rfl,beq_self_eq_true,decide_true,decide_false,reduceCtorEq,Nat.reduceLT,Nat.reduceEqDiff,↓reduceIte,g24r11,p18,b_add (show i + 1≤9223372036854775807 by omega)]
  refine ⟨by trivial,q - 1,by omega,i + 1,by omega,?_,?_,?_,?_,?_,by rw [hsn]; exact k1,k2,k3⟩
  ·simp only [tget_puts,Nat.reduceLT,Nat.reduceEqDiff,↓reduceIte,p0]
  ·simp only [tget_puts,Nat.reduceLT,Nat.reduceEqDiff,↓reduceIte,p6]
  ·simp only [tget_puts,Nat.reduceLT,Nat.reduceEqDiff,↓reduceIte,p16]
  ·simp only [tget_puts,Nat.reduceLT,Nat.reduceEqDiff,↓reduceIte,p17]
  ·simp only [tget_puts,Nat.reduceLT,Nat.reduceEqDiff,↓reduceIte]
 have hx1:=k1.nx
 refine W.cond_if (p:=a ≠ c) (by simp [AOpnd.ev,tget_puts]) (fun hne=>?_) (fun heq=>W.skip ?_)
 rotate_left
 ·have heq:a = c:=by simpa using heq
  have he:eqI ps[i].1 ps[i].2 = true:=by rw [eqI_eq,ha,hc]; simp [heq]
  simp only [andThen,inBlock]
  refine fin _ _ ?_ ?_ (by omega) hk1
  ·try dsimp only
   repeat (first | refine Pres.put ?_ (by decide) (by decide) | exact Pres.refl _ _)
  ·rw [chT_add,he]
   exact hm'
 have he:eqI ps[i].1 ps[i].2 = false:=by rw [eqI_eq,ha,hc]; simpa using fun e:(a:Int) = c=>hne (by omega)
 obtain ⟨H2,c35,k35⟩:=key_ok (E:=E) (C.s _ rfl) C.f35 (H:=H1) (Int.ofNat a) (Int.ofNat c) true
 have hm2':PT.get m2 H2.t = some (.map ((chAll [] ((ps.take i).map addT)).map entT)):=by rw [k35.get m2 (by omega)]; exact hm'
 have hk2:Keep N H0 H2:=hk1.trans (k35.mono (by omega))
 have h2n:=k35.nx
 have hput:=putKey_ent (H:=H2) (t:=normT (Int.ofNat a,Int.ofNat c,true)) hE.nd
 refine W.region ?_
 simp (maxDischargeDepth:=9) only [auW,auC,auT,lget,BEq.rfl,beq_self_eq_true,decide_true,decide_false,reduceCtorEq,Nat.reduceLT,Nat.reduceEqDiff,↓reduceIte,g24r10,h6,l0,l1]
 refine wo_callE (c35) (by simp only [auT,Nat.reduceLT,Nat.reduceEqDiff,↓reduceIte]) ?_
 refine wo_mapUpdate (b:=m2) (kv:=(entT (normT (Int.ofNat a,Int.ofNat c,true))).1) (vv:=.bool true) (by simp only [auT,Nat.reduceLT,Nat.reduceEqDiff,↓reduceIte,h6]) hm2' (by simp only [auT,Nat.reduceLT,Nat.reduceEqDiff,↓reduceIte]) (by simp only [auT,Nat.reduceLT,Nat.reduceEqDiff,↓reduceIte]) rfl hput ?_
 simp (maxDischargeDepth:=9) only [auW,auC,auT,lget,BEq.rfl,beq_self_eq_true,decide_true,decide_false,reduceCtorEq,Nat.reduceLT,Nat.reduceEqDiff,↓reduceIte]
 simp only [andThen,inBlock]
 refine fin _ _ ?_ ?_ (by show m2.toNat < H2.nx.toNat; omega) (hk2.trans (keep_upd hm2))
 ·try dsimp only
  repeat (first | refine Pres.put ?_ (by decide) (by decide) | exact Pres.refl _ _)
 ·rw [chT_add,he,ha,hc]
  exact get_upd
theorem gmake_ok (C:CodeOkC E) (G:GrC E) {N:Nat} {H:AHeap} {x:AVal} {ps:List Prr} (hx:PReads N H x ps) {n:Nat} (hn:n≤1000) (hw:∀ t ∈ ps.map addT,Within n t) (hl:ps.length≤100000) (hN:N≤H.nx.toNat) :
  ∃ v H',CallS E 24 [.int .i64 (.ofNat n),x] H (.tup [v,.int .i64 (.ofNat 0)]) H'∧GraphH H.nx.toNat H' v n (chAll [] (ps.map addT))∧Keep H.nx.toNat H H':=by
 suffices h:∃ w H',CallS E 24 [.int .i64 (.ofNat n),x] H w H'∧∃ v,w = .tup [v,.int .i64 (.ofNat 0)]∧GraphH H.nx.toNat H' v n (chAll [] (ps.map addT))∧Keep H.nx.toNat H H' by
  obtain ⟨w,H',h,v,rfl,h1,h2⟩:=h
  exact ⟨v,H',h,h1,h2⟩
 refine CallS.by (R:=fun w H'=>∃ v,w = .tup [v,.int .i64 (.ofNat 0)]∧GraphH H.nx.toNat H' v n (chAll [] (ps.map addT))∧Keep H.nx.toNat H H') (t0:=tput (tput .l (some (Pos.ofNat 0)) (.int .i64 (.ofNat n))) (some (Pos.ofNat 1)) x) (C.s _ rfl) rfl C.f24 rfl ?_
 refine W.seq (W.region ?_)
 simp (maxDischargeDepth:=9) only [auW,auC,auT,lget,BEq.rfl,beq_self_eq_true,decide_true,decide_false,reduceCtorEq,Nat.reduceLT,Nat.reduceEqDiff,↓reduceIte,g24r0]
 simp only [andThen]
 have hlt:¬ 16777216 < n:=by omega
 refine W.seq (W.seq (W.region ?_))
 simp (maxDischargeDepth:=9) only [auW,auC,auT,lget,BEq.rfl,beq_self_eq_true,decide_true,decide_false,reduceCtorEq,Nat.reduceLT,Nat.reduceEqDiff,↓reduceIte,g24r1,Nat.not_lt_zero,hlt]
 simp only [andThen]
 refine W.cond_false (by simp [AOpnd.ev,tget_puts]) (W.skip ?_)
 simp only [andThen]
 refine W.seq (W.region ?_)
 simp (maxDischargeDepth:=9) only [auW,auC,auT,lget,BEq.rfl,beq_self_eq_true,decide_true,decide_false,reduceCtorEq,Nat.reduceLT,Nat.reduceEqDiff,↓reduceIte,g24r3]
 simp only [andThen]
 have k1:Keep H.nx.toNat H (H.new (.map [])).2:=keep_new
 have hm1:PT.get H.nx (H.new (.map [])).2.t = some (.map []):=get_new
 have hn1:(H.new (.map [])).2.nx.toNat = H.nx.toNat + 1:=nx_new
 generalize (H.new (.map [])).2 = H1 at k1 hm1 hn1 ⊢
 have hx1:=(hx.keep k1 hN).mono hN
 refine W.seq (W.seq (W.region ?_))
 simp (maxDischargeDepth:=9) only [auW,auC,auT,lget,BEq.rfl,beq_self_eq_true,decide_true,decide_false,reduceCtorEq,Nat.reduceLT,Nat.reduceEqDiff,↓reduceIte,g24r4,hx1.fLen]
 simp only [andThen]
 refine W.block (W.mono (gmake_loop C hx1 hw (by omega) (m2:=H.nx) (Nat.le_refl _) ps.length _ _ ⟨0,by omega,?_,?_,?_,?_,?_,hm1,by omega,Keep.refl _ _⟩) ?_)
 ·simp only [tget_puts,Nat.reduceLT,Nat.reduceEqDiff,↓reduceIte]
 ·simp only [tget_puts,Nat.reduceLT,Nat.reduceEqDiff,↓reduceIte]
 ·simp only [tget_puts,Nat.reduceLT,Nat.reduceEqDiff,↓reduceIte]
 ·simp only [tget_puts,Nat.reduceLT,Nat.reduceEqDiff,↓reduceIte]
 ·simp only [tget_puts,Nat.reduceLT,Nat.reduceEqDiff,↓reduceIte]
 rintro e ⟨t',ds⟩ H2 ⟨rfl,hd,q0,q6,qm,ql,qk⟩
 have hd:ds = []:=hd
 subst hd
 have q0:tget t' (Pos.ofNat 0) = .int .i64 (.ofNat n):=q0
 have q6:tget t' (Pos.ofNat 6) = .map H.nx:=q6
 simp only [andThen,inBlock,beq_t]
 have hE:Edges n (chAll [] (ps.map addT)):=Edges.all ⟨by simp,by simp,by simp⟩ hw
 have hlen:=chAll_length (ps.map addT) []
 rw [List.length_map] at hlen
 have hc:=G.of qm hE (by omega) (by simp only [List.length_nil] at hlen; omega)
 obtain ⟨g1,g2⟩:=layGraph_at hE qm ql
 have h2n:=qk.nx
 refine W.seq (W.region ?_)
 simp (maxDischargeDepth:=9) only [auW,auC,auT,lget,BEq.rfl,beq_self_eq_true,decide_true,decide_false,reduceCtorEq,Nat.reduceLT,Nat.reduceEqDiff,↓reduceIte,g24r13,q0,q6]
 refine wo_callE (hc) (by simp only [auT,Nat.reduceLT,Nat.reduceEqDiff,↓reduceIte]) ?_
 simp (maxDischargeDepth:=9) only [auW,auC,auT,lget,BEq.rfl,beq_self_eq_true,decide_true,decide_false,reduceCtorEq,Nat.reduceLT,Nat.reduceEqDiff,↓reduceIte]
 refine W.ret ⟨.inr rfl,rfl,.tup [(layGraph H2 H.nx n (rowsZ n (chAll [] (ps.map addT)))).1,.int .i64 (.ofNat 0)],?_,_,rfl,g1.mono (by omega),k1.trans (qk.trans (g2.mono (by omega)))⟩
 simp [resultA,g24,tget_puts]
end
end Go.Am
end
