import Derived.Test.YtepncpggenncoaaGreatDoorAm11
import Derived.Test.YtepncpggenncoaaGreatDoorAm10
import Derived.Laws.Externs
import Derived.Lib.Bytealg
set_option linter.unusedSimpArgs false
set_option linter.unusedVariables false
set_option maxHeartbeats 8000000
section
namespace Go.Am
open Go Go.RowKit
open Go.ChangeMaps (setBlock)
def j8b(h:AHeap)(x:AVal) :List (AVal×AVal)->Option (List (AVal×AVal))
 | []=>some []
 | (.str s,v)::es=>match eqS h .ptr v x with
  | some b=>match j8b h x es with
   | some es'=>some (match b with | true=>es' | false=>(.str s,v)::es')
   | none=>none
  | none=>none
 | _=>none
def j60:List AVal->AHeap->ARes
 | [.map d,.ptr px ox,.ptr pn on],h=>match z04 h px ox,z04 h pn on,PT.get d h.t with
  | some x,some (.str nm),some (.map es)=>match j8b h x es with
   | some es1=>match nm with
    | []=>some (.tup [],h.bump.upd d (.map es1))
    | _=>match z3i (h.bump.upd d (.map es1)) .str (.str nm) x es1 with
     | some es2=>some (.tup [],(h.bump.upd d (.map es1)).upd d (.map es2))
     | none=>none
   | none=>none
  | _,_,_=>none
 | _,_=>none
def j1d(h:AHeap)(x:AVal)(y:Trip) :Bool:=match eqS h .ptr y.2.1 x with
 | some false=>true
 | _=>false
theorem j2j{h:AHeap}{x:AVal} :∀ {ts:List Trip} {es1:List (AVal×AVal)},j8b h x (ts.map Trip.ab)=some es1 →
  es1=(ts.filter (j1d h x)).map Trip.ab/\∀ y∈ts,(∃ s,y.1=.str s)/\∃ b,eqS h .ptr y.2.1 x=some b
 | [],es1,e=>by simp[j8b]at e;subst e;exact⟨rfl,by simp⟩
 | y::ts,es1,e=>by
  obtain⟨k,v,ent⟩:=y
  simp only[List.map_cons,Trip.ab]at e
  cases k with
  | str s =>
   simp only[j8b]at e
   split at e
   .rename_i b hb
    split at e
    .rename_i es' hes
     obtain⟨h1,h2⟩:=j2j hes
     have h3:∀ y∈((AVal.str s,v,ent) :Trip)::ts,(∃ s,y.1=.str s)/\∃ b,eqS h .ptr y.2.1 x=some b:=by
      intro y hy
      rcases List.mem_cons.1 hy with rfl | hy
      .exact⟨⟨s,rfl⟩,b,hb⟩
      .exact h2 y hy
     refine⟨?_,h3⟩
     cases b with
     | true =>
      have:j1d h x (AVal.str s,v,ent)=false:=by simp[j1d,hb]
      rw[List.filter_cons,this]
      cases e;exact h1
     | false =>
      have:j1d h x (AVal.str s,v,ent)=true:=by simp[j1d,hb]
      rw[List.filter_cons,this]
      cases e
      simp[h1,Trip.ab]
    .cases e
   .cases e
  | _=>simp[j8b]at e
theorem y8c{h:AHeap}{d:Pos}{es:List (AVal×AVal)}(hd:PT.get d h.t=some (.map es))(b:Pos) :live (h.bump.kill d) b=live h b:=by
 unfold live
 by_cases e:d=b
 .subst e
  simp[AHeap.kill,PT.get_set_same,hd]
 .simp only[AHeap.kill,PT.get_set_other _ _ _ _ e]
  rfl
theorem q2l{h:AHeap}{d:Pos}{es:List (AVal×AVal)}(hd:PT.get d h.t=some (.map es))(x y:AVal) :eqS (h.bump.kill d) .ptr x y=eqS h .ptr x y:=by
 unfold eqS
 simp only[y8c hd]
theorem y4m{h:AHeap}{d:Pos}{es:List (AVal×AVal)}(hd:PT.get d h.t=some (.map es))(b:Pos)(o:Nat) :z04 (h.bump.kill d) b o=z04 h b o:=by
 unfold z04
 by_cases e:d=b
 .subst e
  simp[AHeap.kill,PT.get_set_same,hd]
 .simp only[AHeap.kill,PT.get_set_other _ _ _ _ e]
  rfl
theorem j13{h:AHeap}{d:Pos}{es es2:List (AVal×AVal)}(hd:PT.get d h.t=some (.map es))(b:Pos)(o:Nat) :z04 (h.bump.upd d (.map es2)) b o=z04 h b o:=by
 unfold z04
 by_cases e:d=b
 .subst e
  simp[AHeap.upd,PT.get_set_same,hd]
 .simp only[AHeap.upd,PT.get_set_other _ _ _ _ e]
  rfl
section
variable{P:Program}{T:Tys}{B:Nat}
theorem y3v(hT:TOk2 T P){f:FuncId}{fn:Func}(hf:P.funcs[f]? = some fn)(hname:(fn.name == "runtime.NumGoroutine")=false){i0 i1 i2 i3 i4 i5 i6 b0 b1:Nat}{q0 oR n1 n2 oE e1 e2 e3 e4 d1 d2 oD m1 m2 m3 oM:Oper}{ops3 ops5:Array Oper}
  (hb:fn.body=some (.seq (.seq (.region i0 #[q0,oR] false)
   (.block b0 (.loop (.seq (.region i1 #[n1,n2] false) (.seq (.cond (.tmp 9) .skip (.exit b0)) (.block b1 (.seq (.region i2 #[oE,e1,e2,e3,e4] false) (.seq (.region i3 ops3 false) (.cond (.tmp 15) (.region i4 #[d1,d2,oD] false) .skip))))))))) (.seq (.region i5 ops5 false) (.cond (.tmp 19) (.region i6 #[m1,m2,m3,oM] false) .skip))))
  (hnt:fn.ntmps=23) (hres:z2q T fn.results.toList=some [])
  (c0:z0n T 23 [q0,oR] [q0]=some [⟨some (Pos.ofNat 6),.move (.t (Pos.ofNat 0)),none⟩])
  {tm kt et:TypeId} (hR:oR.op=.range tm (.tmp 6)) (hRd:oR.dst=some 7) (hRg:oR.guard=none) (hRt:T.und tm=some (.map kt et)) (hkk:z18 T kt=some .str)
  (hn1:n1.op=.next (.tmp 7) false) (hn1d:n1.dst=some 8) (hn1g:n1.guard=none) (hn2:n2.op=.extract (.tmp 8) 0) (hn2d:n2.dst=some 9) (hn2g:n2.guard=none)
  (hE:oE.op=.entry (.tmp 7)) (hEd:oE.dst=some 10) (hEg:oE.guard=none)
  (c2:z0n T 23 [oE,e1,e2,e3,e4] [e1,e2,e3,e4]=some [⟨some (Pos.ofNat 11),.extract (.t (Pos.ofNat 10)) 0,none⟩,⟨some (Pos.ofNat 12),.extract (.t (Pos.ofNat 10)) 1,none⟩,⟨some (Pos.ofNat 4),.move (.t (Pos.ofNat 11)),none⟩,⟨some (Pos.ofNat 5),.move (.t (Pos.ofNat 12)),none⟩])
  (c3:z0n T 23 ops3.toList ops3.toList=some [⟨some (Pos.ofNat 13),.move (.t (Pos.ofNat 5)),none⟩,⟨some (Pos.ofNat 14),.load1 (.t (Pos.ofNat 1)),none⟩,⟨some (Pos.ofNat 15),.eq false (.one .ptr) (.t (Pos.ofNat 13)) (.t (Pos.ofNat 14)),none⟩])
  (c4:z0n T 23 [d1,d2,oD] [d1,d2]=some [⟨some (Pos.ofNat 16),.move (.t (Pos.ofNat 0)),none⟩,⟨some (Pos.ofNat 17),.move (.t (Pos.ofNat 4)),none⟩])
  (hD:oD.op=.call { callee:=.builtin .delete,args:=#[.tmp 16,.tmp 17],argTypes:=#[tm,kt] }) (hDd:oD.dst=none) (hDg:oD.guard=none)
  (c5:z0n T 23 ops5.toList ops5.toList=some [⟨some (Pos.ofNat 18),.load1 (.t (Pos.ofNat 2)),none⟩,⟨some (Pos.ofNat 19),.bin .neq (.t (Pos.ofNat 18)) (.c (.str [])),none⟩])
  (c6:z0n T 23 [m1,m2,m3,oM] [m1,m2,m3]=some [⟨some (Pos.ofNat 20),.move (.t (Pos.ofNat 0)),none⟩,⟨some (Pos.ofNat 21),.load1 (.t (Pos.ofNat 2)),none⟩,⟨some (Pos.ofNat 22),.load1 (.t (Pos.ofNat 1)),none⟩])
  (hM:z2r T oM.op=some (.mapUpdate .str (.t (Pos.ofNat 20)) (.t (Pos.ofNat 21)) (.t (Pos.ofNat 22)))) (hMd:oM.dst=none) (hMg:oM.guard=none) :z2k P T B f j60:=by
 intro φ H w args args' v H' hH hl h
 unfold j60 at h
 split at h
 rotate_left
 .cases h
 rename_i d px ox pn on
 split at h
 rotate_left
 .cases h
 rename_i xv nm es hpx hpn hd
 split at h
 rotate_left
 .cases h
 rename_i es1 hes1
 have hTm:P.underlying tm=some (.map kt et):=hT.toTOk.und hRt
 have hact:ActRel φ 23 ⟨tput (tput (tput .l (some (Pos.ofNat 0)) (.map d)) (some (Pos.ofNat 1)) (.ptr px ox)) (some (Pos.ofNat 2)) (.ptr pn on),[]⟩ { tmps:=args'++Array.replicate (23-args'.size) undef,defers:=[] }:=z5k rfl hl (by decide)
 have hres0:∀ t',z0u t' H' []=some []:=fun _=>rfl
 have hv:v=.tup []:=by
  split at h
  .cases h;rfl
  .split at h
   .cases h;rfl
   .cases h
 subst hv
 refine .inl (z3g (l:=[]) (ex:=.normal) hT hf hname hb hres (.inl rfl) ?_)
 rw[hnt]
 generalize ({ tmps:=args'++Array.replicate (23-args'.size) undef,defers:=[] } :Act)=a at hact ⊢
 refine wpIn_seq (wpIn_seq (z00 ?_))
 show wpListIn _ _ _ #[q0,oR] _ ([q0]++[oR]) a w
 obtain⟨t2,hq2,g0,g1,g2,g6⟩ :∃ t2,qops H [⟨some (Pos.ofNat 6),.move (.t (Pos.ofNat 0)),none⟩] (tput (tput (tput .l (some (Pos.ofNat 0)) (.map d)) (some (Pos.ofNat 1)) (.ptr px ox)) (some (Pos.ofNat 2)) (.ptr pn on))=some t2 ∧
   tget t2 (Pos.ofNat 0)=.map d/\tget t2 (Pos.ofNat 1)=.ptr px ox/\tget t2 (Pos.ofNat 2)=.ptr pn on/\tget t2 (Pos.ofNat 6)=.map d:=by
  refine z02 (.map d) rfl (by simp[quiet,AOpnd.ev,z0e]) ?_
  refine qnil ⟨?_,?_,?_,?_⟩<;>simp[z0e]
 refine z3r hT c0 hH hact hq2 fun a3 hact3=>?_
 have hv6:=hact3.t.2.2 6 (by decide)
 rw[g6]at hv6
 obtain⟨x,hx,hv6⟩:=hv6
 obtain⟨es',clock,k1,⟨⟨l,pl,pk,pv⟩,nd1,nlt,nd2⟩,hBx⟩:=hH.obj d _ x hd hx
 have hrun:=run_range_map (P:=P) w tm kt et x.c es' clock hTm k1
 have hrun2:(execOp a3.eval oR).run P w=.ok (.value (.pointer (some ⟨w.heap.size,0,none⟩))) (w.alloc (.mapIter (some x.c) clock #[] clock)):=by
  have:a3.eval (.tmp 6)=.map (some x.c):=hv6
  simp only[execOp,hR,this,hrun,Sem.run_bind,Result.andThen_ok,Sem.run_pure]
 refine z35 hRg (by rw[hR];intro c hc;cases hc) hrun2 ?_
 rw[hRd]
 simp only[wpListIn,Exit.then]
 have hS1:=Sim.bump hH (.mapIter (some x.c) clock #[] clock) 0
 have hap:=z82.bump hH 0
 have hxlt:x.c<w.heap.size:=(hH.low d x hx).2
 have hits:IterAt (w.alloc (.mapIter (some x.c) clock #[] clock)) w.heap.size x.c clock l #[] clock es' clock:=by
  refine⟨heap_alloc_new _ _,?_,nlt,lr,lr,?_,nd1⟩
  .rw[heap_alloc_old _ _ hxlt];exact k1
  .rw[z1x]
   have:es'.toList.filter (fun e=>!(#[] :Array Nat).contains e.born)=es'.toList:=List.filter_eq_self.2 fun x _=>by simp
   rw[this]
   exact pl.symm
 have hact4:=(hact3.mono hS1.ext.le).put (o:=oR) (d:=some (Pos.ofNat 7)) (by rw[hRd];rfl) (v:=.ptr H.nx 0) (u:=.pointer (some ⟨w.heap.size,0,none⟩)) ⟨_,Emb.put_same _ _ _,rfl⟩
 rw[hRd]at hact4
 obtain⟨ts,ht1,ht2,ht3⟩:=j4k (LRel.mono hS1.ext.le _ _ pk) (LRel.mono hS1.ext.le _ _ pv)
 have hφr:(φ.put H.nx ⟨w.heap.size,0,0⟩) H.nx=some ⟨w.heap.size,0,0⟩:=Emb.put_same _ _ _
 have hxφ1:(φ.put H.nx ⟨w.heap.size,0,0⟩) d=some x:=hS1.ext.le _ _ hx
 generalize φ.put H.nx ⟨w.heap.size,0,0⟩=φ1 at hS1 hap hact4 ht3 hφr hxφ1
 have hdb:PT.get d H.bump.t≠none:=by show PT.get d H.t≠none;rw[hd];simp
 have hK:=Sim.kill hS1.rel hxφ1
 have hapK:z82 φ1 (H.bump.kill d) x.c:=z82.kill hS1.rel hxφ1 hdb
 have hapI:z82 φ1 (H.bump.kill d) w.heap.size:=by
  intro p y hp hy
  refine hap p y ?_ hy
  by_cases e:d=p
  .subst e;exact hdb
  .simp only[AHeap.kill,PT.get_set_other _ _ _ _ e]at hp;exact hp
 rw[<-ht2]at hes1
 obtain⟨hes1,hts⟩:=j2j hes1
 have hbase:B<=w.heap.size:=hH.base
 let S:List Trip->Act->World->Prop:=fun left a w'=>∃ t kept es2,ActRel φ1 23 ⟨t,[]⟩ a/\tget t (Pos.ofNat 7)=.ptr H.nx 0/\tget t (Pos.ofNat 0)=.map d/\tget t (Pos.ofNat 1)=.ptr px ox/\tget t (Pos.ofNat 2)=.ptr pn on ∧
  ((kept++left).map Trip.ent).Perm es2.toList/\(kept++left.filter (j1d H xv)).Perm (ts.filter (j1d H xv))/\(∀ y∈kept++left,y∈ts)/\(es2.toList.map (·.key)).Nodup ∧
  HRel T B φ1 (H.bump.kill d) w'/\Below B w w'/\∃ seen c0,IterAt w' w.heap.size x.c clock (left.map Trip.ent) seen c0 es2 clock
 have hS0:S ts (a3.put (some 7) (.pointer (some ⟨w.heap.size,0,none⟩))) (w.alloc (.mapIter (some x.c) clock #[] clock)) :=
  ⟨_,[],es',hact4,by simp[z0e],by simp[z0e,g0],by simp[z0e,g1],by simp[z0e,g2],by simpa[ht1]using pl,by simp,by simp,nd2,hK.rel,hS1.below,#[],clock,by rw[ht1];exact hits⟩
 refine j9k (S:=S) (ent:=Trip.ent) (rb:=w.heap.size) (bm:=x.c) (since:=clock) hn1 hn1d hn1g hn2 hn2d hn2g ?_ ?_ ?_ hS0
 .rintro left a w' ⟨t,kept,es2,s1,s2,_,_,_,_,_,_,_,_,_,seen,c0,s9⟩
  have hv:=s1.t.2.2 7 (by decide)
  rw[s2]at hv
  obtain⟨y,hy,hv⟩:=hv
  rw[hφr]at hy
  cases hy
  exact⟨hv,by rw[s1.t.1];decide,by rw[s1.t.1];decide,seen,c0,es2,clock,s9⟩
 .rintro l1 x1 l2 a w' w1 seen c0 es3 clk ⟨t,kept,es2,s1,s2,s3,s4,s5,s6,s7,s8,s10,s11,s12,seen',c0',s9⟩ hI hw1
  have hes:es3=es2/\clk=clock/\seen'=seen:=by
   have h1:=s9.map;have h2:=hI.map;rw[h1]at h2
   have h3:=s9.it;have h4:=hI.it;rw[h3]at h4
   simp only[Option.some.injEq,Obj.map.injEq,Obj.mapIter.injEq]at h2 h4
   exact⟨h2.1.symm,h2.2.symm,h4.2.2.1⟩
  obtain⟨rfl,rfl,rfl⟩:=hes
  rw[List.map_append,List.map_cons]at hI
  have hmem:=hI.mem
  have hI2:=hI.step hw1
  have hH2:=s11.setIter hapI hw1 (.mapIter (some x.c) clk (seen'.push (Trip.ent x1).born) clk)
  have hB2:=Below.setIter s12 hbase hw1 (.mapIter (some x.c) clk (seen'.push (Trip.ent x1).born) clk)
  have hxt:x1∈ts:=s8 x1 (by simp)
  obtain⟨o1k,o1v⟩:=ht3 x1 hxt
  obtain⟨⟨sk,hsk⟩,bb,hbb⟩:=hts x1 hxt
  have hent:=run_entry_at (P:=P) (setBlock w1 w.heap.size (.mapIter (some x.c) clk (seen'.push (Trip.ent x1).born) clk)) w.heap.size x.c clk seen' es3 clk (Trip.ent x1) hI2.it hI2.map hmem hI2.nodup
  generalize hwn:setBlock w1 w.heap.size (.mapIter (some x.c) clk (seen'.push (Trip.ent x1).born) clk)=wn at hI2 hH2 hB2 hent ⊢
  have a1:=s1.put (o:=n1) (d:=some (Pos.ofNat 8)) (by rw[hn1d];rfl) (v:=.tup [.bool true,x1.1,x1.2.1]) (u:=.tuple #[.bool true,(Trip.ent x1).key,(Trip.ent x1).val]) ⟨_,rfl,_,_,rfl,rfl,_,_,rfl,o1k,_,_,rfl,o1v,rfl⟩
  have a2:=a1.put (o:=n2) (d:=some (Pos.ofNat 9)) (by rw[hn2d];rfl) (v:=.bool true) (u:=.bool true) rfl
  rw[hn1d,hn2d]at a2
  generalize (a.put (some 8) (.tuple #[.bool true,(Trip.ent x1).key,(Trip.ent x1).val])).put (some 9) (.bool true)=ar at a2 ⊢
  refine wpIn_seq (z00 ?_)
  show wpListIn _ _ _ #[oE,e1,e2,e3,e4] _ (oE::([e1,e2,e3,e4]++[])) ar wn
  have hv7:=a2.t.2.2 7 (by decide)
  rw[z0e _ (by decide) (by decide),z0e _ (by decide) (by decide),s2]at hv7
  simp at hv7
  obtain⟨y,hy,hv7⟩:=hv7
  rw[hφr]at hy
  cases hy
  have hrunE:(execOp ar.eval oE).run P wn=.ok (.value (.tuple #[(Trip.ent x1).key,(Trip.ent x1).val])) wn:=by
   have:ar.eval (.tmp 7)=.pointer (some ⟨w.heap.size,0,none⟩):=by rw[show ar.eval (.tmp 7)=ar.tmps.getD 7 undef from rfl];simpa using hv7
   simp only[execOp,hE,this,hent,Sem.run_bind,Result.andThen_ok,Sem.run_pure]
  refine z35 hEg (by rw[hE];intro c hc;cases hc) hrunE ?_
  have a3:=a2.put (o:=oE) (d:=some (Pos.ofNat 10)) (by rw[hEd];rfl) (v:=.tup [x1.1,x1.2.1]) (u:=.tuple #[(Trip.ent x1).key,(Trip.ent x1).val]) ⟨_,rfl,_,_,rfl,o1k,_,_,rfl,o1v,rfl⟩
  obtain⟨t4,hq4,r7,r0,r1,r2,r4,r5⟩ :∃ t4,qops (H.bump.kill d) [⟨some (Pos.ofNat 11),.extract (.t (Pos.ofNat 10)) 0,none⟩,⟨some (Pos.ofNat 12),.extract (.t (Pos.ofNat 10)) 1,none⟩,⟨some (Pos.ofNat 4),.move (.t (Pos.ofNat 11)),none⟩,⟨some (Pos.ofNat 5),.move (.t (Pos.ofNat 12)),none⟩]
    (tput (tput (tput t (some (Pos.ofNat 8)) (.tup [.bool true,x1.1,x1.2.1])) (some (Pos.ofNat 9)) (.bool true)) (some (Pos.ofNat 10)) (.tup [x1.1,x1.2.1]))=some t4 ∧
    tget t4 (Pos.ofNat 7)=.ptr H.nx 0/\tget t4 (Pos.ofNat 0)=.map d/\tget t4 (Pos.ofNat 1)=.ptr px ox/\tget t4 (Pos.ofNat 2)=.ptr pn on/\tget t4 (Pos.ofNat 4)=x1.1/\tget t4 (Pos.ofNat 5)=x1.2.1:=by
   refine z02 x1.1 rfl (by simp[quiet,AOpnd.ev,z0e,lget]) ?_
   refine z02 x1.2.1 rfl (by simp[quiet,AOpnd.ev,z0e,lget]) ?_
   refine z02 x1.1 rfl (by simp[quiet,AOpnd.ev,z0e]) ?_
   refine z02 x1.2.1 rfl (by simp[quiet,AOpnd.ev,z0e]) ?_
   refine qnil ⟨?_,?_,?_,?_,?_,?_⟩<;>simp[z0e,s2,s3,s4,s5]
  refine z3r hT c2 hH2 a3 hq4 fun a4 hact4=>?_
  simp only[wpListIn,Exit.then]
  obtain⟨t5,hq5,u7,u0,u1,u2,u4,u15⟩ :∃ t5,qops (H.bump.kill d) [⟨some (Pos.ofNat 13),.move (.t (Pos.ofNat 5)),none⟩,⟨some (Pos.ofNat 14),.load1 (.t (Pos.ofNat 1)),none⟩,⟨some (Pos.ofNat 15),.eq false (.one .ptr) (.t (Pos.ofNat 13)) (.t (Pos.ofNat 14)),none⟩] t4=some t5 ∧
    tget t5 (Pos.ofNat 7)=.ptr H.nx 0/\tget t5 (Pos.ofNat 0)=.map d/\tget t5 (Pos.ofNat 1)=.ptr px ox/\tget t5 (Pos.ofNat 2)=.ptr pn on/\tget t5 (Pos.ofNat 4)=x1.1/\tget t5 (Pos.ofNat 15)=.bool bb:=by
   refine z02 x1.2.1 rfl (by simp[quiet,AOpnd.ev,r5]) ?_
   refine z02 xv rfl (by simp[quiet,AOpnd.ev,z0e,r1,y4m hd,hpx]) ?_
   refine z02 (.bool bb) rfl (by simp[quiet,AOpnd.ev,z0e,eqV,q2l hd,hbb]) ?_
   refine qnil ⟨?_,?_,?_,?_,?_,?_⟩<;>simp[z0e,r7,r0,r1,r2,r4]
  refine wpIn_seq (z1f hT c3 hH2 hact4 hq5 fun a5 hact5=>?_)
  have hperm:(kept++(l1++x1::l2)).Perm (x1::(kept++(l1++l2))):=by
   rw[<-List.append_assoc,<-List.append_assoc];exact List.perm_middle
  have hv15:a5.eval (.tmp 15)=.bool bb:=by
   have:=hact5.t.2.2 15 (by decide)
   rw[u15]at this
   exact this
  have hsub:∀ y∈kept++(l1++l2),y∈ts:=fun y hy=>s8 y (hperm.mem_iff.2 (List.mem_cons_of_mem _ hy))
  cases bb with
  | false =>
   refine wpIn_cond_false hv15 (wpIn_skip ⟨rfl,t5,kept++[x1],es3,hact5,u7,u0,u1,u2,?_,?_,?_,s10,hH2,hB2,seen'.push (Trip.ent x1).born,clk,by rw[List.map_append];exact hI2⟩)
   .refine(List.Perm.map _ ?_).trans s6
    rw[List.append_assoc]
    exact List.Perm.append_left _ (by simpa using List.perm_middle.symm)
   .have hst:j1d H xv x1=true:=by simp[j1d,hbb]
    refine List.Perm.trans ?_ s7
    rw[List.filter_append,List.filter_append,List.filter_cons,hst,if_pos rfl,List.append_assoc]
    exact List.Perm.append_left _ (by simpa using List.perm_middle.symm)
   .intro y hy
    refine s8 y ?_
    simp at hy ⊢
    rcases hy with hy | hy | hy | hy<;>simp[hy]
  | true =>
   refine wpIn_cond_true hv15 (z00 ?_)
   show wpListIn _ _ _ #[d1,d2,oD] _ ([d1,d2]++[oD]) a5 wn
   obtain⟨t6,hq6,y7,y0,y1,y2,y16,y17⟩ :∃ t6,qops (H.bump.kill d) [⟨some (Pos.ofNat 16),.move (.t (Pos.ofNat 0)),none⟩,⟨some (Pos.ofNat 17),.move (.t (Pos.ofNat 4)),none⟩] t5=some t6 ∧
     tget t6 (Pos.ofNat 7)=.ptr H.nx 0/\tget t6 (Pos.ofNat 0)=.map d/\tget t6 (Pos.ofNat 1)=.ptr px ox/\tget t6 (Pos.ofNat 2)=.ptr pn on/\tget t6 (Pos.ofNat 16)=.map d/\tget t6 (Pos.ofNat 17)=x1.1:=by
    refine z02 (.map d) rfl (by simp[quiet,AOpnd.ev,u0]) ?_
    refine z02 x1.1 rfl (by simp[quiet,AOpnd.ev,z0e,u4]) ?_
    refine qnil ⟨?_,?_,?_,?_,?_,?_⟩<;>simp[z0e,u7,u0,u1,u2]
   refine z3r hT c4 hH2 hact5 hq6 fun a6 hact6=>?_
   have hv16:a6.eval (.tmp 16)=.map (some x.c):=by
    have:=hact6.t.2.2 16 (by decide)
    rw[y16]at this
    obtain⟨z,hz,e⟩:=this
    rw[hxφ1]at hz;cases hz
    exact e
   have hv17:a6.eval (.tmp 17)=(Trip.ent x1).key:=by
    have:=hact6.t.2.2 17 (by decide)
    rw[y17,hsk]at this
    rw[hsk]at o1k
    have e1:=(VRel.str_inv this).1
    have e2:=(VRel.str_inv o1k).1
    exact e1.trans e2.symm
   obtain⟨E1,E2,hE1,hfind⟩:=y9a (P:=P) hT.toTOk hH2 hkk (ts:=kept++(l1++x1::l2)) s6 (fun y hy=>ht3 y (s8 y hy)) s10 (fun y hy=>(hts y (s8 y hy)).1) (x:=x1) (by simp)
   have hdel:(Builtin.delete_ #[tm,kt] oD.type #[.map (some x.c),(Trip.ent x1).key]).run P wn=.ok (.tuple #[]) (setBlock wn x.c (.map (E1++E2).toArray clk)):=by
    have hg:=z2s (P:=P) hI2.map (by simp)
    have herase:es3.eraseIdxIfInBounds E1.length=(E1++E2).toArray:=by
     have hlt:E1.length<es3.size:=by
      have:=congrArg List.length hE1
      simp at this;omega
     apply Array.ext'
     rw[Array.eraseIdxIfInBounds,dif_pos hlt,Array.toList_eraseIdx,hE1,j75]
    have hck:∀ b,(Instr.checkKey b 10000 kt (Trip.ent x1).key).run P wn=.ok () wn:=z07 hT.toTOk hkk (k:=x1.1) (u:=(Trip.ent x1).key) (ht3 x1 (s8 x1 (by simp))).1 rfl
    simp[Builtin.delete_,run_underlying hTm,hg,hck,hfind,herase,z26 _ hI2.map]
    rfl
   have hrunD:(execOp a6.eval oD).run P wn=.ok (.value (.tuple #[])) (setBlock wn x.c (.map (E1++E2).toArray clk)):=by
    simp[execOp,hD,resolve,invoke,builtin,hv16,hv17,hdel,Result.andThen]
   refine z35 hDg (by rw[hD];intro c hc;cases hc) hrunD ?_
   simp only[wpListIn]
   have hsub2:(E1++E2).Sublist es3.toList:=by
    rw[hE1];exact List.Sublist.append (List.Sublist.refl _) (List.sublist_cons_self _ _)
   refine⟨by first | rfl | trivial,t6,kept,(E1++E2).toArray,?_,y7,y0,y1,y2,?_,?_,hsub,s10.sublist (hsub2.map _),hH2.setIter hapK (.inl rfl) _,Below.setIter hB2 hBx (.inl rfl) _,seen'.push (Trip.ent x1).born,clk,?_⟩
   .rw[hDd];exact hact6
   .have h1:=(hperm.map Trip.ent).symm.trans s6
    rw[hE1,List.map_cons]at h1
    have h2:=h1.trans List.perm_middle
    exact(List.perm_cons _).1 h2
   .have hst:j1d H xv x1=false:=by simp[j1d,hbb]
    refine List.Perm.trans ?_ s7
    rw[List.filter_append,List.filter_append,List.filter_cons,hst]
    simp
   .rw[List.map_append]
    exact hI2.del hE1 rfl (by simp) (Nat.ne_of_gt hxlt)
 .rintro a w' ⟨t,kept,es2,s1,s2,s3,s4,s5,s6,s7,s8,s10,s11,s12,seen',c0',s9⟩
  have a1:=s1.put (o:=n1) (d:=some (Pos.ofNat 8)) (by rw[hn1d];rfl) (v:=.tup [.bool false]) (u:=.tuple #[.bool false]) ⟨_,rfl,_,_,rfl,rfl,rfl⟩
  have a2:=a1.put (o:=n2) (d:=some (Pos.ofNat 9)) (by rw[hn2d];rfl) (v:=.bool false) (u:=.bool false) rfl
  rw[hn1d,hn2d]at a2
  generalize (a.put (some 8) (.tuple #[.bool false])).put (some 9) (.bool false)=ar at a2 ⊢
  simp only[List.append_nil,List.filter_nil]at s6 s7 s8
  have hm:z6n φ1 es1 es2 clock:=by
   rw[hes1]
   refine j1w ((s7.symm.map _).trans s6) (fun y hy=>ht3 y (List.mem_filter.1 hy).1) s9.nodup s9.old s10
  have hH3:HRel T B φ1 (H.bump.upd d (.map es1)) w':=s11.restore hxφ1 hapK ⟨es2,clock,s9.map,hm,hBx⟩
  have hExt:Ext φ H φ1 (H.bump.upd d (.map es1)):=by
   refine⟨hS1.ext.le,fun p hp hn=>⟨(hS1.ext.old p hp hn).1,?_⟩,hS1.ext.nx⟩
   have:d≠p:=fun e=>by rw[e]at hx;rw[hx]at hn;cases hn
   simp only[AHeap.upd,PT.get_set_other _ _ _ _ this]
   rfl
  have hS3:Sim T B φ H w φ1 (H.bump.upd d (.map es1)) w':=⟨hExt,hH3,s12⟩
  obtain⟨t5,hq5,u0,u1,u2,u19⟩ :∃ t5,qops (H.bump.upd d (.map es1)) [⟨some (Pos.ofNat 18),.load1 (.t (Pos.ofNat 2)),none⟩,⟨some (Pos.ofNat 19),.bin .neq (.t (Pos.ofNat 18)) (.c (.str [])),none⟩] (tput (tput t (some (Pos.ofNat 8)) (.tup [.bool false])) (some (Pos.ofNat 9)) (.bool false))=some t5 ∧
    tget t5 (Pos.ofNat 0)=.map d/\tget t5 (Pos.ofNat 1)=.ptr px ox/\tget t5 (Pos.ofNat 2)=.ptr pn on/\tget t5 (Pos.ofNat 19)=.bool (!z14 nm []):=by
   refine z02 (.str nm) rfl (by simp[quiet,AOpnd.ev,z0e,s5,j13 hd,hpn]) ?_
   refine z02 (.bool (!z14 nm [])) rfl (by simp[quiet,AOpnd.ev,z0e,z0l,j3c]) ?_
   refine qnil ⟨?_,?_,?_,?_⟩<;>simp[z0e,s3,s4,s5]
  refine wpIn_seq (z1f hT c5 hH3 a2 hq5 fun a5 hact5=>?_)
  have hv19:a5.eval (.tmp 19)=.bool (!z14 nm []):=by
   have:=hact5.t.2.2 19 (by decide)
   rw[u19]at this
   exact this
  split at h
  .cases h
   exact wpIn_cond_false hv19 (wpIn_skip ⟨t5,by first | rfl | trivial,rfl,φ1,hS3,hact5⟩)
  .rename_i hnm
   split at h
   rotate_left
   .cases h
   rename_i es4 hput
   cases h
   have hne:z14 nm []=false:=by
    cases nm with
    | nil=>exact(hnm rfl).elim
    | cons c nm=>rfl
   rw[hne]at hv19
   refine wpIn_cond_true hv19 (z00 ?_)
   show wpListIn _ _ _ #[m1,m2,m3,oM] _ ([m1,m2,m3]++[oM]) a5 w'
   obtain⟨t6,hq6,z20,z21,z22⟩ :∃ t6,qops (H.bump.upd d (.map es1)) [⟨some (Pos.ofNat 20),.move (.t (Pos.ofNat 0)),none⟩,⟨some (Pos.ofNat 21),.load1 (.t (Pos.ofNat 2)),none⟩,⟨some (Pos.ofNat 22),.load1 (.t (Pos.ofNat 1)),none⟩] t5=some t6 ∧
     tget t6 (Pos.ofNat 20)=.map d/\tget t6 (Pos.ofNat 21)=.str nm/\tget t6 (Pos.ofNat 22)=xv:=by
    refine z02 (.map d) rfl (by simp[quiet,AOpnd.ev,u0]) ?_
    refine z02 (.str nm) rfl (by simp[quiet,AOpnd.ev,z0e,u2,j13 hd,hpn]) ?_
    refine z02 xv rfl (by simp[quiet,AOpnd.ev,z0e,u1,j13 hd,hpx]) ?_
    refine qnil ⟨?_,?_,?_⟩<;>simp[z0e]
   refine z3r hT c6 hH3 hact5 hq6 fun a6 hact6=>?_
   have hw:z01 t6 (H.bump.upd d (.map es1)) (.mapUpdate .str (.t (Pos.ofNat 20)) (.t (Pos.ofNat 21)) (.t (Pos.ofNat 22)))=some (.undef,(H.bump.upd d (.map es1)).upd d (.map es4)):=by
    simp[z01,j06,j7u,z3o,AOpnd.ev,z20,z21,z22,AHeap.upd,PT.get_set_same]
    simp[AHeap.upd]at hput
    rw[hput]
   have hdoes:=y0j (P:=P) hT hH3 hact6.t hM hw
   refine wpListIn_plain hMg fun K hK=>⟨j0z,?_⟩
   rw[Oper.semAt_eq _ _ _ (by intro c hc;rw[hc]at hM;simp only[z2r]at hM;split at hM<;>first | (split at hM<;>cases hM) | cases hM)]
   refine hdoes.upon fun u w2 φ2 hvu hS4=>hK _ _ ?_
   simp only[wpListIn]
   rw[hMd]
   exact⟨t6,by first | rfl | trivial,rfl,φ2,hS3.trans hS4,hact6.mono hS4.ext.le⟩
end
end Go.Am
end
section
namespace Go.Am
open Go Go.RowKit
def bstr(h:AHeap) :AVal->Option (List Nat)
 | .str s=>some s
 | .snil=>some []
 | .sl b o len _ _=>match z0t h b o len with
  | some l=>match Am.bytesOf l with
   | some s=>match s.all fun n=>Nat.blt n 256 with
    | true=>some s
    | false=>none
   | none=>none
  | none=>none
 | _=>none
section
variable{P:Program}{T:Tys}{B:Nat}{φ:Emb}{H:AHeap}{w:World}
theorem z8c(c:Nat) :∀ (s:List Nat) (o:Nat) (acc:List Nat),(∀ j n,s[j]? = some n->w.cell? ⟨c,o+j,none⟩=some (.int .u8 (n:Nat)))->(Extern.Bytes.loadBytes ⟨c,o,none⟩ s.length (strV acc)).run P w=.ok (strV (acc++s)) w
 | [],o,acc,_=>by simp[Extern.Bytes.loadBytes]
 | n::s,o,acc,h=>by
  have h0:w.cell? ⟨c,o,none⟩=some (.int .u8 (n:Nat)):=h 0 n rfl
  have hl:(load ⟨c,o,none⟩).run P w=.ok (.int .u8 (n:Nat)) w:=by simp[h0]
  have hp:(strV acc).push ((n:Int).toNat.toUInt8)=strV (acc++[n]):=by
   apply ByteArray.ext
   apply Array.ext'
   simp[strV,ByteArray.push]
  simp only[List.length_cons,Extern.Bytes.loadBytes,Sem.run_bind,hl,Result.andThen_ok,z24]
  rw[hp,z8c c s (o+1) (acc++[n]) (fun j m hj=>by
   have:=h (j+1) m (by simpa using hj)
   rw[show o+1+j=o+(j+1)by omega];exact this)]
  simp
theorem q79(hH:HRel T B φ H w){x:AVal}{u:Value}(hu:VRel φ x u){s:List Nat}(h:bstr H x=some s) :(Extern.Bytes.bytesOf u).run P w=.ok (strV s) w/\∀ n∈s,n<256:=by
 unfold bstr at h
 split at h
 .cases h
  obtain⟨e,hlt⟩:=VRel.str_inv hu
  exact⟨by simp[e,Extern.Bytes.bytesOf],hlt⟩
 .cases h
  have e:u=.slice none 0 0:=hu
  exact⟨by simp[e,Extern.Bytes.bytesOf];rfl,by simp⟩
 .rename_i b o len cap k
  split at h
  .rename_i l hl
   split at h
   .rename_i s' hs
    split at h
    .rename_i hall
     cases h
     obtain⟨y,a',cap',e1,e2,e3,e4,e5,_⟩:=j1f hu
     obtain⟨us,g1,g2,g3,g4⟩:=z3z (P:=P) hH e1 hl
     have hus:=z9r hs g2
     have hlen:s.length=len:=by rw[<-g1,hus];simp
     refine⟨?_,j4a hall⟩
     rw[e2]
     simp only[Extern.Bytes.bytesOf]
     rcases Nat.eq_zero_or_pos len with h0 | h0
     .have:s=[]:=List.length_eq_zero_iff.1 (by omega)
      subst this
      rw[h0]
      simp[Extern.Bytes.loadBytes]
      rfl
     .have ha:a'=⟨y.c,y.s+o,none⟩:=by
       rcases e5 with h | h
       .exact h
       .omega
      have:=z8c (P:=P) (w:=w) y.c s (y.s+o) [] (fun j n hj=>g3 j _ (by rw[hus];simp[hj]))
      rw[hlen]at this
      rw[ha]
      rw[List.nil_append]at this
      exact this
    .cases h
   .cases h
  .cases h
 .cases h
end
def cnt(c:Nat) :List Nat->Nat->Nat
 | [],n=>n
 | x::l,n=>match Nat.beq x c with
  | true=>cnt c l (Nat.succ n)
  | false=>cnt c l n
def z4w:List AVal->AHeap->ARes
 | [.str s,.int .u8 (.ofNat c)],h=>match Nat.blt c 256 with
  | true=>some (.int .i64 (.ofNat (cnt c s 0)),h)
  | false=>none
 | _,_=>none
theorem q5i(c:Nat)(hc:c<256) :∀ (s:List Nat) (n:Nat),(∀ x∈s,x<256)->cnt c s n=n+(s.map UInt8.ofNat).count (UInt8.ofNat c)
 | [],n,_=>by simp[cnt]
 | x::s,n,h=>by
  have hx:=h x (by simp)
  have ih:=fun n=>q5i c hc s n fun y hy=>h y (List.mem_cons_of_mem _ hy)
  simp only[List.map_cons,List.count_cons,cnt]
  by_cases e:x=c
  .subst e
   rw[Nat.beq_refl]
   simp only[ih]
   simp
   omega
  .have h1:Nat.beq x c=false:=by
    cases hb:Nat.beq x c with
    | false=>rfl
    | true=>exact absurd (Nat.eq_of_beq_eq_true hb) e
   have h2:¬ ((UInt8.ofNat x==UInt8.ofNat c)=true):=fun h'=>e (ofNat_inj hx hc (by simpa using h'))
   rw[h1,if_neg h2]
   simp only[ih]
   omega
theorem z85{P:Program}{T:Tys}{B:Nat}{f:FuncId}{fn:Func}(hf:P.funcs[f]? = some fn)(hname:(fn.name == "runtime.NumGoroutine")=false)(hb:fn.body.isNone=true)(hn:Extern.findNext fn=none)
  (he:Extern.find fn=some Extern.BytealgCount.count) :z2k P T B f z4w:=by
 intro φ H w args args' v H' hH hl h
 unfold z4w at h
 split at h
 .rename_i s c
  split at h
  .rename_i hc
   have hc:c<256:=by simpa[Nat.blt_eq]using hc
   cases h
   obtain⟨u1,r1,e1,h1,u2,r2,e2,h2,e3⟩:=hl
   subst e2
   have e3:r2=[]:=e3
   subst e3
   obtain⟨e4,hlt⟩:=VRel.str_inv h1
   have e5:u2=.int .u8 (c:Nat):=h2
   have ha:args'=#[.string (strV s),.int .u8 (c:Nat)]:=by
    apply Array.ext'
    rw[e1,e4,e5]
   refine .inr ⟨.int .i64 (cnt c s 0:Nat),w,φ,?_,rfl,Sim.refl hH⟩
   rw[run_callFunc_extern hf hname hb hn he,ha]
   have hcount:(Extern.BytealgCount.count #[.string (strV s),.int .u8 (c:Nat)]).run P w=.ok (.int .i64 (cnt c s 0:Nat)) w:=by
    have hcc:((c:Int).toNat.toUInt8)=UInt8.ofNat c:=by simp[Nat.toUInt8]
    have h0:=q5i c hc s 0 hlt
    rw[Go.Lib.run_countString,hcc,h0,Nat.zero_add]
    rfl
   rw[hcount]
   rfl
  .cases h
 .cases h
def z4f:List AVal->AHeap->ARes
 | [.iface t (.map m)],h=>match PT.get m h.t with
  | some (.map es)=>match h.new (.map es)with
   | (b,h')=>some (.iface t (.map b),h')
  | _=>none
 | _,_=>none
theorem j09{P:Program}{T:Tys}{B:Nat}{f:FuncId}{fn:Func}(hf:P.funcs[f]? = some fn)(hname:(fn.name == "runtime.NumGoroutine")=false)(hb:fn.body.isNone=true)(hn:Extern.findNext fn=none)
  (he:Extern.find fn=some Extern.MapsClone.clone) :z2k P T B f z4f:=by
 intro φ H w args args' v H' hH hl h
 unfold z4f at h
 split at h
 .rename_i t m
  split at h
  .rename_i es hm
   cases h
   obtain⟨u1,r1,e1,h1,e2⟩:=hl
   have e2:r1=[]:=e2
   subst e2
   obtain⟨u,e3,y,hy,e4⟩:=h1
   have ha:args'=#[.iface t (.map (some y.c))]:=by
    apply Array.ext'
    rw[e1,e3,e4]
   obtain⟨es',clock,g1,g2,g3⟩:=hH.obj m _ y hm hy
   have hS:=Sim.new hH (.map es) (.map es' clock) 0 ⟨es',clock,by show(w.heap.push _)[w.heap.size]? = _;simp,g2,hH.base⟩
   refine .inr ⟨.iface t (.map (some w.heap.size)),_,_,?_,⟨_,rfl,_,Emb.put_same _ _ _,rfl⟩,hS⟩
   rw[run_callFunc_extern hf hname hb hn he,ha]
   have hrun:(Extern.MapsClone.clone #[.iface t (.map (some y.c))]).run P w=.ok (.iface t (.map (some w.heap.size))) (w.alloc (.map es' clock)):=by
    change Sem.run P (do
     let .map z3n clock <-getObj y.c | stuck "maps.clone: a map expected"
     pure (Value.iface t (.map (some (<-newObj (.map z3n clock))))) :Sem Value) w=_
    simp only[Sem.run_bind,z2s g1 (by simp),Result.andThen_ok,run_newObj_alloc,Sem.run_pure]
   rw[hrun]
   rfl
  .cases h
 .cases h
end Go.Am
end
section
namespace Go.Am
open Go Go.RowKit
open Go.ChangeMaps (setBlock)
section
variable{P:Program}{T:Tys}{B:Nat}{φ:Emb}{H:AHeap}{w:World}{nt:Nat}{t:PT AVal}{a:Act}
theorem z9m(hT:TOk T P)(hH:HRel T B φ H w)(ht:TRel φ nt t a.tmps){o:Oper}{ty kt e:TypeId}{m k x:Operand}(ho:o.op=.mapUpdate ty m k x){am ak ax:AOpnd}(hm:opnd T m=some am)(hkx:opnd T k=some ak)(hx:opnd T x=some ax)
  (hs:T.und ty=some (.map kt e)) {q:EqK} (hk:z18 T kt=some q) {b:Pos} (h1:am.ev t=.map b) {es es':List (AVal×AVal)} (hb:PT.get b H.t=some (.map es)) (hfit:z3o q (ak.ev t)=true) (h:z3i H q (ak.ev t) (ax.ev t) es=some es') :
  ∃ p ob,φ b=some p/\(execOp a.eval o).run P w=.ok .skip (setBlock w p.c ob)/\Sim T B φ H w φ (H.upd b (.map es')) (setBlock w p.c ob):=by
 have hmv:=z0m hH ht hm
 have hkv:=z0m hH ht hkx
 have hxv:=z0m hH ht hx
 rw[h1]at hmv
 obtain⟨p,hp,em⟩:=hmv
 obtain⟨arr,clock,g1,g2,g3⟩:=hH.obj b _ p hb hp
 have hg:=z2s (P:=P) g1 (by simp)
 have fin:∀ ob,ORel T φ B { w with heap:=w.heap.setIfInBounds p.c ob } (.map es') p->Sim T B φ H w φ (H.upd b (.map es')) { w with heap:=w.heap.setIfInBounds p.c ob }:=by
  intro ob ho
  have hother:∀ c,c≠p.c->({ w with heap:=w.heap.setIfInBounds p.c ob } :World).heap[c]? = w.heap[c]?:=fun c hc=>by
   show(w.heap.setIfInBounds p.c ob)[c]? = _
   rw[Array.getElem?_setIfInBounds_ne (fun e=>hc e.symm)]
  exact Sim.turn hH hp (by rw[hb];simp) (Below.of_one g3 rfl rfl rfl (by simp) hother) (by simp) hother ho
 have hin:p.c<w.heap.size:=(hH.low b p hp).2
 rcases j1o h with⟨hf,rfl⟩ | ⟨es1,k',v',es2,rfl,rfl,hf⟩
 .obtain⟨i1,i2⟩:=z2f hT hH g2 hk hkv hf
  refine⟨p,(.map (arr.push { key:=a.eval k,val:=a.eval x,born:=clock }) (clock+1)),hp,?_,fin (.map (arr.push { key:=a.eval k,val:=a.eval x,born:=clock }) (clock+1)) ?_⟩
  .simp[execOp,ho,Instr.mapUpdate,hT.run_und hs,em,hg,z07 hT hk hkv hfit,i1,z26 _ g1]
   rfl
  .obtain⟨⟨l,p1,p2,p3⟩,n1,n2,n3⟩:=g2
   refine⟨arr.push { key:=a.eval k,val:=a.eval x,born:=clock },clock+1,by show(w.heap.setIfInBounds p.c _)[p.c]? = _;simp[hin],⟨⟨l++[{ key:=a.eval k,val:=a.eval x,born:=clock }],by simpa using p1.append_right _,?_,?_⟩,?_,?_,?_⟩,g3⟩
   .simp only[List.map_append];exact p2.append ⟨_,_,rfl,hkv,rfl⟩
   .simp only[List.map_append];exact p3.append ⟨_,_,rfl,hxv,rfl⟩
   .simp only[Array.toList_push,List.map_append,List.map_cons,List.map_nil]
    refine List.nodup_append.2 ⟨n1,by simp,?_⟩
    intro y hy z hz hyz
    simp at hz
    obtain⟨e',he',rfl⟩:=List.mem_map.1 hy
    have:=n2 e' he'
    omega
   .intro e' he'
    simp at he'
    rcases he' with he' | rfl
    .have:=n2 e' (by simpa using he');omega
    .simp
   .simp only[Array.toList_push,List.map_append,List.map_cons,List.map_nil]
    refine List.nodup_append.2 ⟨n3,by simp,?_⟩
    intro y hy z hz hyz
    simp at hz
    obtain⟨e',he',rfl⟩:=List.mem_map.1 hy
    exact i2 e' he' (by rw[hyz,hz])
 .obtain⟨E1,e0,E2,fs1,kk,fs2,l1,l2,i1,i2,i3,i4,i5,i6,i7,i8,i9,i10,i11,i12⟩:=z2f hT hH g2 hk hkv hf
  have hsb:=z8b hT hk hkv i6
  have hat:arr[E1.length]? = some e0:=by
   rw[<-Array.getElem?_toList,i1];simp
  have hstay:(Instr.keyThatStays (((arr[E1.length]?).map (·.key)).getD (a.eval k)) (a.eval k)).run P w=.ok (a.eval k) w:=by
   simp[hat,i4,Instr.keyThatStays,hsb]
  rw[i5,j1p i6 (i5▸hf)]at h
  have h:=Option.some.inj h
  rw[<-h]at fin ⊢
  let e1:MapEntry:={ e0 with key:=a.eval k,val:=a.eval x }
  have hmod:arr.modify E1.length (fun e=>{ e with key:=a.eval k,val:=a.eval x })=(E1++e1::E2).toArray:=by
   apply Array.ext'
   rw[Array.toList_modify,i1,z9c]
  refine⟨p,(.map (E1++e1::E2).toArray clock),hp,?_,fin (.map (E1++e1::E2).toArray clock) ?_⟩
  .simp only[execOp,ho,Instr.mapUpdate,Sem.run_bind,hT.run_und hs,em,hg,Result.andThen_ok,z07 hT hk hkv hfit,i2,hstay,hmod,z26 _ g1,Sem.run_pure]
   rfl
  .obtain⟨_,n1,n2,n3⟩:=g2
   have hperm:(l1++e1::l2).Perm (E1++e1::E2):=by
    rw[i1]at i7
    have h1:(l1++l2).Perm (E1++E2):=(List.perm_cons e0).1 ((List.perm_middle.symm.trans i7).trans List.perm_middle)
    exact(List.perm_middle.trans (h1.cons e1)).trans List.perm_middle.symm
   have hborn:(E1++e1::E2).map (·.born)=arr.toList.map (·.born):=by rw[i1];simp[e1]
   have hkeys:(E1++e1::E2).map (·.key)=arr.toList.map (·.key):=by rw[i1];simp[e1,i4]
   refine⟨(E1++e1::E2).toArray,clock,by show(w.heap.setIfInBounds p.c _)[p.c]? = _;simp[hin],⟨⟨l1++e1::l2,by simpa using hperm,?_,?_⟩,by simpa[hborn]using n1,?_,by simpa[hkeys]using n3⟩,g3⟩
   .simp only[List.map_append,List.map_cons];exact i8.append ⟨_,_,rfl,hkv,i9⟩
   .simp only[List.map_append,List.map_cons];exact i10.append ⟨_,_,rfl,hxv,i11⟩
   .intro e' he'
    have:e'.born∈(E1++e1::E2).map (·.born):=List.mem_map.2 ⟨e',by simpa using he',rfl⟩
    rw[hborn]at this
    obtain⟨e2,h2,h3⟩:=List.mem_map.1 this
    rw[<-h3];exact n2 e2 h2
theorem y45{es es2:List (AVal×AVal)}(h:es.Perm es2) :∀ {l:List MapEntry},LRel φ (es.map (·.1)) (l.map (·.key))->LRel φ (es.map (·.2)) (l.map (·.val))->∃ l2:List MapEntry,l2.Perm l/\LRel φ (es2.map (·.1)) (l2.map (·.key))/\LRel φ (es2.map (·.2)) (l2.map (·.val)):=by
 have cons_inv:∀ {e:AVal×AVal} {es:List (AVal×AVal)} {l:List MapEntry},LRel φ ((e::es).map (·.1)) (l.map (·.key))->LRel φ ((e::es).map (·.2)) (l.map (·.val)) →
   ∃ x l',l=x::l'/\VRel φ e.1 x.key/\VRel φ e.2 x.val/\LRel φ (es.map (·.1)) (l'.map (·.key))/\LRel φ (es.map (·.2)) (l'.map (·.val)):=by
  intro e es l h1 h2
  obtain⟨v,vs,e1,e2,e3⟩:=h1
  obtain⟨u,us,g1,g2,g3⟩:=h2
  cases l with
  | nil=>cases e1
  | cons x l =>
   simp only[List.map_cons,List.cons.injEq]at e1 g1
   obtain⟨rfl,rfl⟩:=e1
   obtain⟨rfl,rfl⟩:=g1
   exact⟨x,l,rfl,e2,g2,e3,g3⟩
 induction h with
 | nil=>intro l h1 h2;exact⟨l,List.Perm.refl _,h1,h2⟩
 | cons e _ ih =>
  intro l h1 h2
  obtain⟨x,l',rfl,e1,e2,e3,e4⟩:=cons_inv h1 h2
  obtain⟨l2,g1,g2,g3⟩:=ih e3 e4
  exact⟨x::l2,g1.cons x,⟨_,_,rfl,e1,g2⟩,⟨_,_,rfl,e2,g3⟩⟩
 | swap e1 e2 es =>
  intro l h1 h2
  obtain⟨x,l',rfl,a1,a2,a3,a4⟩:=cons_inv h1 h2
  obtain⟨y,l'',rfl,b1,b2,b3,b4⟩:=cons_inv a3 a4
  exact⟨y::x::l'',List.Perm.swap _ _ _,⟨_,_,rfl,b1,_,_,rfl,a1,b3⟩,⟨_,_,rfl,b2,_,_,rfl,a2,b4⟩⟩
 | trans _ _ ih1 ih2 =>
  intro l h1 h2
  obtain⟨l2,g1,g2,g3⟩:=ih1 h1 h2
  obtain⟨l3,k1,k2,k3⟩:=ih2 g2 g3
  exact⟨l3,k1.trans g1,k2,k3⟩
theorem j9l{es es2:List (AVal×AVal)}(h:es.Perm es2){es':Array MapEntry}{clock:Nat}(hm:z6n φ es es' clock) :z6n φ es2 es' clock:=by
 obtain⟨⟨l,p1,p2,p3⟩,h3⟩:=hm
 obtain⟨l2,g1,g2,g3⟩:=y45 h p2 p3
 exact⟨⟨l2,g1.trans p1,g2,g3⟩,h3⟩
theorem HRel.updPerm{b:Pos}{x:Place}{es es2:List (AVal×AVal)}(hH:HRel T B φ (H.upd b (.map es)) w)(hx:φ b=some x)(h:es.Perm es2) :HRel T B φ (H.upd b (.map es2)) w:=by
 have hg:PT.get b (H.upd b (.map es)).t=some (.map es):=by simp[AHeap.upd,PT.get_set_same]
 obtain⟨es',clock,h1,h2,h3⟩:=hH.obj b _ x hg hx
 have hK:=(Sim.kill hH hx).rel
 have ha:=z82.kill hH hx (by rw[hg];simp)
 rw[j5d]at hK ha
 exact hK.restore hx ha ⟨es',clock,h1,j9l h h2,h3⟩
def z56:List AVal->AHeap->ARes
 | [.map m],h=>match PT.get m h.t with
  | some (.map es)=>match h.new (.map es)with
   | (b,h')=>some (.map b,h')
  | _=>none
 | _,_=>none
theorem EnvOk.one{f:FuncId}{s:List AVal->AHeap->ARes}(hf:f<2^31)(h:z2k P T B f s) :EnvOk P T B ⟨.l,PT.set (Pos.ofNat f) (some s) .l,.l⟩ :=
 EnvOk.of_lists (fs:=[]) (ss:=[(f,s)]) (dd:=[]) (fun p hp=>by cases hp) (fun p hp=>by simp at hp;subst hp;exact⟨hf,h⟩) (fun p hp=>by cases hp)
theorem z1p.none:z1p P T B (fun _ _ _ _=>Option.none):=fun c nt ro ro' aa H φ a w _ _ _ _ _ _ h=>by cases h
theorem j8z(hT:TOk2 T P){f:FuncId}{fn:Func}(hf:P.funcs[f]? = some fn)(hname:(fn.name == "runtime.NumGoroutine")=false){fe:FuncId}(hfe:fe<2^31)(hext:z2k P T B fe z4f){i0 i1 i3:Nat}{o5 o6 o7 o8 o9:Oper}{r2:Code}{ops0 ops1:Array Oper}
  (hb:fn.body=some (.seq (.region i0 ops0 false) (.seq (.seq (.region i1 ops1 false) (.cond (.tmp 4) r2 .skip)) (.seq (.region i3 #[o5,o6,o7,o8,o9] false) .ret))))
  (hnt:fn.ntmps=9) (hres:z2q T fn.results.toList=some [(Pos.ofNat 2,Option.none)])
  (c0:z0n T 9 ops0.toList ops0.toList=some [⟨some (Pos.ofNat 2),.move (.c .mnil),Option.none⟩])
  (c1:z0n T 9 ops1.toList ops1.toList=some [⟨some (Pos.ofNat 3),.move (.t (Pos.ofNat 0)),Option.none⟩,⟨some (Pos.ofNat 4),.eq false (.one .map) (.t (Pos.ofNat 3)) (.c .mnil),Option.none⟩])
  {tm kt et xt:TypeId} (hTm:P.underlying tm=some (.map kt et))
  (c3:z0n T 9 [o5,o6,o7,o8,o9] [o5,o6]=some [⟨some (Pos.ofNat 5),.move (.t (Pos.ofNat 0)),Option.none⟩,⟨some (Pos.ofNat 6),.mkI tm (.t (Pos.ofNat 5)),Option.none⟩])
  (c7:z2r T o7.op=some (.callF fe [.t (Pos.ofNat 6)])) (c7d:o7.dst=some 7) (c7g:o7.guard=Option.none)
  (c8:o8.op=.typeAssert (.tmp 7) xt tm false) (c8d:o8.dst=some 8) (c8g:o8.guard=Option.none)
  (c9:z0n T 9 [o5,o6,o7,o8,o9] [o9]=some [⟨some (Pos.ofNat 2),.move (.t (Pos.ofNat 8)),Option.none⟩]) :z2k P T B f z56:=by
 intro φ H w args args' v H' hH hl h
 unfold z56 at h
 split at h
 rotate_left
 .cases h
 rename_i m
 split at h
 rotate_left
 .cases h
 rename_i es hm
 simp only[Option.some.injEq,Prod.mk.injEq]at h
 obtain⟨rfl,rfl⟩:=h
 refine .inl ?_
 refine z3g (l:=[.map (H.new (.map es)).1]) (ex:=.ret) hT hf hname hb hres (.inr rfl) ?_
 rw[hnt]
 have hact:ActRel φ 9 ⟨tput .l (some (Pos.ofNat 0)) (.map m),[]⟩ { tmps:=args'++Array.replicate (9-args'.size) undef,defers:=[] }:=z5k rfl hl (by decide)
 generalize ({ tmps:=args'++Array.replicate (9-args'.size) undef,defers:=[] } :Act)=a at hact ⊢
 refine wpIn_seq (z1f hT c0 hH hact rfl fun a1 hact=>?_)
 obtain⟨t1,hq1,g0,g4⟩ :∃ t1,qops H [⟨some (Pos.ofNat 3),.move (.t (Pos.ofNat 0)),Option.none⟩,⟨some (Pos.ofNat 4),.eq false (.one .map) (.t (Pos.ofNat 3)) (.c .mnil),Option.none⟩] (tput (tput .l (some (Pos.ofNat 0)) (.map m)) (some (Pos.ofNat 2)) .mnil)=some t1 ∧
   tget t1 (Pos.ofNat 0)=.map m/\tget t1 (Pos.ofNat 4)=.bool false:=by
  refine z02 (.map m) rfl (by simp[quiet,AOpnd.ev,z0e]) ?_
  refine z02 (.bool false) rfl (by simp[quiet,AOpnd.ev,z0e,eqV,eqS]) ?_
  refine qnil ⟨?_,?_⟩<;>simp[z0e]
 refine wpIn_seq (wpIn_seq (z1f hT c1 hH hact hq1 fun a2 hact=>?_))
 have hv4:a2.eval (.tmp 4)=.bool false:=by
  have:=hact.t.2.2 4 (by decide)
  rw[g4]at this
  exact this
 refine wpIn_cond_false hv4 (wpIn_skip ?_)
 refine wpIn_seq (z00 ?_)
 show wpListIn _ _ _ #[o5,o6,o7,o8,o9] _ ([o5,o6]++[o7,o8,o9]) a2 w
 obtain⟨t2,hq2,g6⟩ :∃ t2,qops H [⟨some (Pos.ofNat 5),.move (.t (Pos.ofNat 0)),Option.none⟩,⟨some (Pos.ofNat 6),.mkI tm (.t (Pos.ofNat 5)),Option.none⟩] t1=some t2/\tget t2 (Pos.ofNat 6)=.iface tm (.map m):=by
  refine z02 (.map m) rfl (by simp[quiet,AOpnd.ev,g0]) ?_
  refine z02 (.iface tm (.map m)) rfl (by simp[quiet,AOpnd.ev,z0e]) ?_
  exact qnil (by simp[z0e])
 refine z3r hT c3 hH hact hq2 fun a3 hact3=>?_
 have hcall:z1o ⟨.l,PT.set (Pos.ofNat fe) (some z4f) .l,.l⟩ (fun _ _ _ _=>Option.none) t2 H (.callF fe [.t (Pos.ofNat 6)])=some (.iface tm (.map (H.new (.map es)).1),(H.new (.map es)).2):=by
  have hlt:Nat.blt fe 2147483648=true:=by rw[Nat.blt_eq];omega
  simp only[z1o,z9p,evs,AOpnd.ev,g6,hlt,PT.get_set_same,z4f,hm]
 refine wpListIn_plain c7g fun K hK=>?_
 refine j90 (P:=P) hT (EnvOk.one hfe hext) z1p.none hH hact3.t c7 hcall fun u w1 φ1 hvu hS=>hK _ _ ?_
 rw[c7d]
 have hact4:=(hact3.mono hS.ext.le).put (o:=o7) (d:=some (Pos.ofNat 7)) (by rw[c7d];rfl) hvu
 rw[c7d]at hact4
 obtain⟨u',hu1,hu2⟩:=hvu
 have hrun8:(execOp (a3.put (some 7) u).eval o8).run P w1=.ok (.value u') w1:=by
  have:(a3.put (some 7) u).eval (.tmp 7)=.iface tm u':=by
   have h3:=hact3.t.1
   rw[<-hu1]
   simp[Act.eval,Act.put,h3]
  simp only[execOp,c8,this]
  simp[Instr.typeAssert,run_underlying hTm]
 refine z35 c8g (by rw[c8];intro c hc;cases hc) hrun8 ?_
 have hact5:=hact4.put (o:=o8) (d:=some (Pos.ofNat 8)) (by rw[c8d];rfl) (v:=.map (H.new (.map es)).1) hu2
 show wpListIn _ _ _ #[o5,o6,o7,o8,o9] _ ([o9]++[]) _ w1
 obtain⟨t3,hq3,k2⟩ :∃ t3,qops (H.new (.map es)).2 [⟨some (Pos.ofNat 2),.move (.t (Pos.ofNat 8)),Option.none⟩] (tput (tput t2 (some (Pos.ofNat 7)) (.iface tm (.map (H.new (.map es)).1))) (some (Pos.ofNat 8)) (.map (H.new (.map es)).1))=some t3/\tget t3 (Pos.ofNat 2)=.map (H.new (.map es)).1:=by
  refine z02 (.map (H.new (.map es)).1) rfl (by simp[quiet,AOpnd.ev,z0e]) ?_
  exact qnil (by simp[z0e])
 refine z3r hT c9 hS.rel hact5 hq3 fun a6 hact6=>?_
 simp only[wpListIn,Exit.then]
 refine wpIn_ret ⟨t3,?_,rfl,φ1,hS,hact6⟩
 simp[z0u,k2]
end
end Go.Am
end
