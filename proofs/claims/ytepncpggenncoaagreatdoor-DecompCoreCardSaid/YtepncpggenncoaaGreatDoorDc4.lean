import Derived.Test.YtepncpggenncoaaGreatDoorDc3
import Derived.Test.YtepncpggenncoaaGreatDoorDc2
set_option linter.unusedSimpArgs false
set_option linter.unusedVariables false
set_option maxRecDepth 20000
set_option maxHeartbeats 8000000
section
namespace Go.Am
open Go Go.Proofs
theorem k21:z0l .geq (.int .i64 (.negSucc 0)) (.int .i64 (.ofNat 0))=some (.bool false):=rfl
theorem RSt.reset{H:AHeap}{F:Pos}{vf vd vp:AVal}{fl:List FD}{ds:List DD}{np ct:Nat}{d:AVal}{es:List Ent}(h:RSt H F vf vd vp fl (ds++[(d,es)]) np ct){N:Nat}(hN:N<=H.nx.toNat) :RSt ((H.new (.cells [d] false false)).2.upd F (.cells (RC vf (.sl H.nx 0 1 1 0) .snil ct) false false)) F vf (.sl H.nx 0 1 1 0) .snil fl [(d,es)] 0 ct/\Step N (RSup F vf vd vp fl (ds++[(d,es)])) H (RSup F vf (.sl H.nx 0 1 1 0) .snil fl [(d,es)]) ((H.new (.cells [d] false false)).2.upd F (.cells (RC vf (.sl H.nx 0 1 1 0) .snil ct) false false)):=by
 have hl:=h.lt
 have hF:=h.top
 have hg:∀ p:Pos,p.toNat<H.nx.toNat->p≠F->PT.get p ((H.new (.cells [d] false false)).2.upd F (.cells (RC vf (.sl H.nx 0 1 1 0) .snil ct) false false)).t=PT.get p H.t:=fun p h1 h2=>by rw[z0a (fun e=>h2 e.symm),z19 h1]
 have ho:H.nx.toNat<=((H.new (.cells [d] false false)).2.upd F (.cells (RC vf (.sl H.nx 0 1 1 0) .snil ct) false false)).nx.toNat:=Nat.le_of_lt z0h
 have nq:∀ p,RSup F vf vd vp fl (ds++[(d,es)]) p->p≠H.nx:=fun p hp e=>by have:=hl p hp;rw[e]at this;omega
 have hRM:∀ p,p≠H.nx->¬ RM F vf vd vp p->¬ RM F vf (.sl H.nx 0 1 1 0) .snil p:=fun p h1 h2 h3=>by
  rcases h3 with e | e | e | e
  .exact h2 (.inl e)
  .exact h2 (.inr (.inl e))
  .exact h1 e
  .cases e
 have R:RSt ((H.new (.cells [d] false false)).2.upd F (.cells (RC vf (.sl H.nx 0 1 1 0) .snil ct) false false)) F vf (.sl H.nx 0 1 1 0) .snil fl [(d,es)] 0 ct:=by
  refine⟨z0q,Nat.lt_of_lt_of_le hF ho,?_,?_,⟨[],GS.nil⟩,?_,?_,⟨h.nF.1,fun e=>nq F (.inl (.inl rfl)) e,fun e=>by cases e⟩,?_,?_,?_⟩
  .exact h.gf.other (fun p hp=>hg p (hl p (.inl (.inr (.inl hp)))) (fun e=>h.nF.1 (e▸hp))) ho
  .refine⟨rfl,.inr ⟨H.nx,0,false,rfl,?_,.inl rfl,z0h⟩⟩
   rw[z0a (fun e=>by rw[e]at hF;omega)];exact z0i
  .exact fun f hf=>⟨(h.data f hf).1.other (fun p hp=>hg p (hl p (.inr (.inl ⟨f,hf,hp⟩))) (fun e=>h.df f hf p hp (.inl e))) ho,(h.data f hf).2⟩
  .intro x hx
   have hx:x∈ds++[(d,es)]:=List.mem_append.2 (.inr hx)
   exact Rd.other (h.dirs x hx) (fun p hp=>hg p (hl p (.inr (.inr ⟨x,hx,hp⟩))) (fun e=>h.dd x hx p hp (.inl e))) ho
  .intro p
   exact⟨fun e=>⟨fun e2=>by cases e2;exact nq _ (.inl (.inr (.inl e))) rfl,fun e2=>by cases e2⟩,fun _ e2=>by cases e2⟩
  .exact fun f hf p hp=>hRM p (nq p (.inr (.inl ⟨f,hf,hp⟩))) (h.df f hf p hp)
  .intro x hx p hp
   have hx:x∈ds++[(d,es)]:=List.mem_append.2 (.inr hx)
   exact hRM p (nq p (.inr (.inr ⟨x,hx,hp⟩))) (h.dd x hx p hp)
 refine⟨R,ho,fun p h1 h2=>hg p (by omega) (fun e=>h2 (.inl (.inl e))),?_,R.lt⟩
 rintro p ((e | e | e | e) | ⟨f,hf,hp⟩ | ⟨x,hx,hp⟩)
 .exact .inl (.inl (.inl e))
 .exact .inl (.inl (.inr (.inl e)))
 .cases e;exact .inr hN
 .cases e
 .exact .inl (.inr (.inl ⟨f,hf,hp⟩))
 .exact .inl (.inr (.inr ⟨x,List.mem_append.2 (.inr hx),hp⟩))
section
variable{E:Env}(C:Ck E)
include C
theorem j8d{N:Nat}{H:AHeap}{F:Pos}{files:List (List Nat×Nat)}{dirs:List (List Ent)}{es:List Ent}{np ct:Nat}{S:Pos->Prop}(h:RS H F files (dirs++[es]) np ct S)(hN:N<=H.nx.toNat)(he:es.length<=1000)(hd:dirs.length<=900)(hf:files.length<=900)(hp:np<=900)(hc:ct<=900000){nm:List Nat}(hn:IsNm nm)(h0:ratF nm es 0=.negSucc 0) :∃ H' S',z0f E 26 [.ptr F 0,.str nm] H (.int .i64 (.ofNat 0)) H'/\RS H' F (files++[([],0)]) (dirs++[es]++[z1k es files.length nm]) (np+1) (ct+1) S'/\Step N S H S' H':=by
 obtain⟨vf,vd,vp,fl,ds,h,e1,e2,rfl⟩:=h
 obtain⟨ds0,⟨d,es'⟩,rfl,e3,e4⟩:=z4j e2
 have e4:es'=es:=e4
 subst e4
 have l1:fl.length=files.length:=by rw[<-e1,List.length_map]
 have l2:ds0.length=dirs.length:=by rw[<-e3,List.length_map]
 obtain⟨n1,n2,n3⟩:=h.now
 have k1:Keep H.nx.toNat H (H.new (.cells [.snil,.int .i64 (.ofNat 0)] false false)).2:=z0d
 have h1:=h.keep k1 lr
 obtain⟨Hf,b1,b2,R1,S1⟩:=h1.addF (N:=N) (Nat.le_trans hN k1.nx) (z9y (H:=H) (k:=2) (row:=[.snil,.int .i64 (.ofNat 0)]) rfl) rfl (by omega)
 have g2:=fun H2=>R1.gf.rd.len (H2:=H2)
 generalize hvf:AVal.sl _ 0 (List.length _+1) _ 2=vf' at b1 R1 S1 g2
 have T1:=((k1.mono hN).step h.lt).trans S1
 have g3:=R1.sc
 obtain⟨vd',vp',w,H',c1,R2,S2⟩:=q5f C R1 (N:=N) (Nat.le_trans hN (Nat.le_trans k1.nx S1.nx)) (by omega) (by omega) (by omega) (by omega) fl.length nm
 refine⟨H',_,?_,⟨_,_,_,_,_,R2,?_,?_,rfl⟩,T1.trans S2⟩
 .refine C.c26.re (by conv=>lhs;reduce) ?_
  simp(maxDischargeDepth:=9)only[auX,Nat.reduceAdd,zA,z0c (z4d C h.fs hn),z0c (z3y C h (by omega)),z0c (at_k C n2 (by omega) nm),h0,k21,hl_g h.fs,z0r b1,z0z b2,hl_g R1.fs,g2,g3,List.length_append,List.length_cons,List.length_nil,z74 (i:=fl.length+1) (k:=1) (by omega) (by omega),Nat.add_sub_cancel,z0c c1]
 .simp[e1]
 .simp[e3,l1]
theorem y6b{H:AHeap}{F:Pos}{files:List (List Nat×Nat)}{dirs:List (List Ent)}{es:List Ent}{np ct:Nat}{S:Pos->Prop}(h:RS H F files (dirs++[es]) np ct S)(he:es.length<=1000)(hd:dirs.length<=900)(hf:files.length<=900)(hp:np<=900)(hc:ct<=900000){nm:List Nat}(hn:IsNm nm){j:Nat}(h0:ratF nm es 0=.ofNat j){x:Nat}(hx:∃ hj:j<es.length,es[j].2=x)(hxl:x<files.length) :z0f E 115 [.ptr F 0,.str nm] H (.tup [.int .i64 (.ofNat files[x].1.length),.int .i64 (.ofNat 0)]) H:=by
 obtain⟨vf,vd,vp,fl,ds,h,e1,e2,rfl⟩:=h
 obtain⟨ds0,⟨d,es'⟩,rfl,e3,e4⟩:=z4j e2
 have e4:es'=es:=e4
 subst e4
 have l1:fl.length=files.length:=by rw[<-e1,List.length_map]
 have l2:ds0.length=dirs.length:=by rw[<-e3,List.length_map]
 obtain⟨n1,n2,n3⟩:=h.now
 obtain⟨hj,hx⟩:=hx
 have hxf:x<fl.length:=by omega
 obtain⟨bd,od,i1,_,_,i2⟩:=DirR.at n2 hj
 rw[hx]at i2
 obtain⟨bf,op,f1,f2,f3,f4,f5⟩:=h.setF hxf
 have hd1:=(h.data _ (List.getElem_mem hxf)).1
 have e5:files[x]=fl[x].2:=by subst e1;simp
 refine C.c115.re (by conv=>lhs;reduce) ?_
 simp(maxDischargeDepth:=9)only[auX,reduceCtorEq,zA,aZ,Nat.reduceAnd,z0c (z4d C h.fs hn),z0c (z3y C h (by omega)),z0j (z3y C h (by omega)),z0c (at_k C n2 (by omega) nm),h0,hl_g h.fs,h.sc,i1,i2,f1,f4,hd1.len,e5,show ¬ j<0 by omega]
end
def idxs(dirs:List (List Ent)) :List Nat:=dirs.flatMap fun es=>es.map (·.2)
theorem y8r(ds:List DD) :ds.flatMap (fun d=>d.2.map (·.2))=idxs (ds.map (·.2)):=by unfold idxs;rw[List.flatMap_map]
structure Fit (files:List (List Nat×Nat)) (dirs:List (List Ent)) :Prop where
 b:∀ f∈files,f.1.length<=1000000
 l:files.length<=900
 d:dirs.length<=900
 e:∀ es∈dirs,es.length<=1000
 x:∀ es∈dirs,∀ e∈es,e.2<files.length
 t:(idxs dirs).length<=1000000
def j16(files:List (List Nat×Nat))(dirs:List (List Ent)) :Nat:=hst (files.map (·.1.length)) (idxs dirs) (List.replicate files.length false) 0
section
variable{E:Env}(C:Ck E)
include C
theorem y8y{H:AHeap}{F:Pos}{files:List (List Nat×Nat)}{dirs:List (List Ent)}{np ct:Nat}{S:Pos->Prop}(h:RS H F files dirs np ct S)(q:Fit files dirs) :∃ H',z0f E 55 [.ptr F 0] H (.int .i64 (.ofNat (j16 files dirs))) H'/\Keep H.nx.toNat H H':=by
 obtain⟨vf,vd,vp,fl,ds,h,e1,e2,rfl⟩:=h
 have l1:fl.length=files.length:=by rw[<-e1,List.length_map]
 have l2:ds.length=dirs.length:=by rw[<-e2,List.length_map]
 have hx:∀ d∈ds,d.2∈dirs:=fun d hd=>by rw[<-e2];exact List.mem_map.2 ⟨d,hd,rfl⟩
 obtain⟨w,H',c,rfl,k⟩:=k09 C h (B:=1000000) (fun f hf=>q.b f.2 (by rw[<-e1];exact List.mem_map.2 ⟨f,hf,rfl⟩)) (by have:=q.l;omega) (by have:=q.d;omega) (fun d hd=>q.e _ (hx d hd)) (fun d hd e he=>by rw[l1];exact q.x _ (hx d hd) e he) (by rw[y8r,e2];have:=q.t;omega)
 refine⟨H',?_,k⟩
 have e3:fl.map (·.2.1.length)=files.map (·.1.length):=by rw[<-e1,List.map_map];rfl
 rw[y8r,e2,l1,e3]at c
 exact c
theorem j8p{N:Nat}{H:AHeap}{F:Pos}{files:List (List Nat×Nat)}{dirs:List (List Ent)}{es:List Ent}{np ct:Nat}{S:Pos->Prop}(h:RS H F files (dirs++[es]) np ct S)(hN:N<=H.nx.toNat)(he:es.length<=1000)(hd:dirs.length<=900)(hf:files.length<=900)(hp:np<=900)(hc:ct<=900000){nm:List Nat}(hn:IsNm nm){j:Nat}(h0:ratF nm es 0=.ofNat j){x:Nat}(hx:∃ hj:j<es.length,es[j].2=x)(hxl:x<files.length){v:AVal}{us:List Nat}(hv:Rd 1 H v us.length (z0b us))(hu:∀ u∈us,u<256)(q:Fit files (dirs++[es]))(hr:j16 files (dirs++[es])+us.length<=2147483647)(hul:us.length<=1000000) :∃ H' S',z0f E 29 [.ptr F 0,.str nm,v] H (.int .i64 (.ofNat 0)) H'/\RS H' F (files.set x (files[x].1++us,files[x].2)) (dirs++[es]) np (ct+1) S'/\Step N S H S' H':=by
 obtain⟨H1,c1,k1⟩:=y8y C h q
 have hv1:=hv.keep k1 lr
 have hbx:=q.b _ (List.getElem_mem hxl)
 obtain⟨vf,vd,vp,fl,ds,h,e1,e2,rfl⟩:=h
 obtain⟨ds0,⟨d,es'⟩,rfl,e3,e4⟩:=z4j e2
 have e4:es'=es:=e4
 subst e4
 have l1:fl.length=files.length:=by rw[<-e1,List.length_map]
 have l2:ds0.length=dirs.length:=by rw[<-e3,List.length_map]
 obtain⟨n1,n2,n3⟩:=h.now
 obtain⟨hj,hx⟩:=hx
 have hxf:x<fl.length:=by omega
 obtain⟨bd,od,i1,_,_,i2⟩:=DirR.at n2 hj
 rw[hx]at i2
 obtain⟨bf,op,f1,f2,f3,f4,f5⟩:=h.setF hxf
 have e5:files[x]=fl[x].2:=by subst e1;simp
 have h1:=h.keep k1 lr
 obtain⟨m1,m2,m3⟩:=h1.now
 obtain⟨bd',od',i1',_,_,i2'⟩:=DirR.at m2 hj
 rw[i1]at i1'
 cases i1'
 rw[hx]at i2'
 obtain⟨bf',op',f1',g2,_,g4,_⟩:=h1.setF hxf
 rw[f1]at f1'
 cases f1'
 have hd1:=(h1.data _ (List.getElem_mem hxf)).1
 obtain⟨w2,H2,c2,G2,k2⟩:=z62 C hd1 (by rw[e5]at hbx;omega)
 have hv2:=hv1.keep k2 lr
 obtain⟨w3,H3,c3,G3,k3⟩:=q5q (by':=1) (by omega) G2 k2.nx hv2.src (by rw[z1d];omega) (z3p us) (by rw[e5]at hbx;omega)
 have h3:=h1.keep (k2.trans k3) lr
 obtain⟨bf',op',f1',f2',f3',f4',f5'⟩:=h3.setF hxf
 rw[f1]at f1'
 cases f1'
 have hn1:=k1.nx
 have hn2:=k2.nx
 have hn3:=k3.nx
 obtain⟨R,T⟩:=f5' N (w3,fl[x].2.1++us,fl[x].2.2) (by rw[List.length_append,z33];exact G3.1.rd) (fun u hu'=>by
  rcases List.mem_append.1 hu' with hu' | hu'
  .exact(h.data _ (List.getElem_mem hxf)).2 u hu'
  .exact hu u hu') (fun p hp hm=>by have:=G3.2 p hp;have:=h1.lt p (.inl hm);omega) (fun p hp=>.inr (by have:=G3.2 p hp;omega))
 have st:=(j9x fl x hxf w3 (fl[x].2.1++us) 0).1
 have hst:=z0z f2' (o:=x*2) (vs:=[w3]) (by rw[z0p G3.1.rd.scal];rfl) (by rw[st];rfl)
 rw[st,j7o]at hst
 have cp:=y7f C R.fs (by omega)
 obtain⟨R5,T5⟩:=R.setC (ct+1) N
 refine⟨_,_,?_,⟨_,_,_,_,_,R5,?_,e2,rfl⟩,((((k1.mono hN).trans (k2.mono (by omega))).trans (k3.mono (by omega))).step h.lt |>.trans T).trans T5⟩
 .refine C.c29.re (by conv=>lhs;reduce) ?_
  simp(maxDischargeDepth:=9)only[auX,reduceCtorEq,zA,aZ,Nat.reduceAnd,z0c (z4d C h.fs hn),z0c (z3y C h (by omega)),z0j (z3y C h1 (by omega)),z0c (at_k C n2 (by omega) nm),h0,hl_g h.fs,hl_g h1.fs,h.sc,hv.len,hv.same,i1,i2',f1,g4,z0j c1,z0o (i:=j16 files (dirs++[es'])) (k:=us.length) (by omega),show ¬ j<0 by omega,show ¬ 2147483647<j16 files (dirs++[es'])+us.length by omega,z0c c2,z0r c3,hst,G3.1.rd.scal,z0c cp]
 .rw[List.map_set,e1,e5]
end
section
variable{E:Env}(C:Ck E)
include C
theorem y5s{N:Nat}{H:AHeap}{F:Pos}{files:List (List Nat×Nat)}{dirs:List (List Ent)}{es:List Ent}{np ct:Nat}{S:Pos->Prop}(h:RS H F files (dirs++[es]) np ct S)(hN:N<=H.nx.toNat)(he:es.length<=1000)(hd:dirs.length<=900)(hf:files.length<=900)(hp:np<=900)(hc:ct<=900000){nm:List Nat}(hn:IsNm nm){j:Nat}(h0:ratF nm es 0=.ofNat j){x:Nat}(hx:∃ hj:j<es.length,es[j].2=x)(hxl:x<files.length)(hbx:files[x].1.length<=1000000) :∃ H' S',z0f E 31 [.ptr F 0,.str nm] H (.int .i64 (.ofNat 0)) H'/\RS H' F (files.set x (files[x].1,files[x].1.length)) (dirs++[es]) np (ct+1) S'/\Step N S H S' H':=by
 obtain⟨vf,vd,vp,fl,ds,h,e1,e2,rfl⟩:=h
 obtain⟨ds0,⟨d,es'⟩,rfl,e3,e4⟩:=z4j e2
 have e4:es'=es:=e4
 subst e4
 have l1:fl.length=files.length:=by rw[<-e1,List.length_map]
 have l2:ds0.length=dirs.length:=by rw[<-e3,List.length_map]
 obtain⟨n1,n2,n3⟩:=h.now
 obtain⟨hj,hx⟩:=hx
 have hxf:x<fl.length:=by omega
 obtain⟨bd,od,i1,_,_,i2⟩:=DirR.at n2 hj
 rw[hx]at i2
 obtain⟨bf,op,f1,f2,f3,f4,f5⟩:=h.setF hxf
 have e5:files[x]=fl[x].2:=by subst e1;simp
 have cf:=j9y C h.fs (by omega)
 obtain⟨R1,T1⟩:=h.setC (ct+1) N
 obtain⟨bf',op',f1',g2,_,g4,g5⟩:=R1.setF hxf
 rw[f1]at f1'
 cases f1'
 obtain⟨m1,m2,m3⟩:=R1.now
 obtain⟨bd',od',i1',_,_,i2'⟩:=DirR.at m2 hj
 rw[i1]at i1'
 cases i1'
 rw[hx]at i2'
 have hd1:=(R1.data _ (List.getElem_mem hxf))
 obtain⟨R,T⟩:=g5 N (fl[x].1,fl[x].2.1,fl[x].2.1.length) hd1.1 hd1.2 (fun p hp=>R1.df _ (List.getElem_mem hxf) p hp) (fun p hp=>.inl (.inr (.inl ⟨_,List.getElem_mem hxf,hp⟩)))
 have st:=(j9x fl x hxf .snil [] fl[x].2.1.length).2
 have hst:=z0z g2 (o:=x*2+1) (vs:=[.int .i64 (.ofNat fl[x].2.1.length)]) rfl (by rw[st];rfl)
 rw[st,j7o]at hst
 refine⟨_,_,?_,⟨_,_,_,_,_,R,?_,e2,rfl⟩,T1.trans T⟩
 .refine C.c31.re (by conv=>lhs;reduce) ?_
  simp(maxDischargeDepth:=9)only[auX,reduceCtorEq,zA,aZ,Nat.reduceAnd,z0c (z4d C h.fs hn),z0c (z3y C h (by omega)),z0c cf,z0j (z3y C R1 (by omega)),z0c (at_k C n2 (by omega) nm),h0,hl_g R1.fs,h.sc,i1,i2',f1,g4,hd1.1.len,show ¬ j<0 by omega,hst]
 .rw[List.map_set,e1,e5]
theorem z84{N:Nat}{H:AHeap}{F:Pos}{files:List (List Nat×Nat)}{dirs:List (List Ent)}{es:List Ent}{np ct:Nat}{S:Pos->Prop}(h:RS H F files (dirs++[es]) np ct S)(hN:N<=H.nx.toNat)(he:es.length<=1000)(hd:dirs.length<=900)(hf:files.length<=900)(hp:np<=900)(hc:ct<=900000) :∃ H' S',z0f E 33 [.ptr F 0] H (.int .i64 (.ofNat 0)) H'/\RS H' F files [es] 0 (ct+1) S'/\Step N S H S' H':=by
 obtain⟨vf,vd,vp,fl,ds,h,e1,e2,rfl⟩:=h
 obtain⟨ds0,⟨d,es'⟩,rfl,e3,e4⟩:=z4j e2
 have e4:es'=es:=e4
 subst e4
 have l1:fl.length=files.length:=by rw[<-e1,List.length_map]
 have l2:ds0.length=dirs.length:=by rw[<-e3,List.length_map]
 obtain⟨n1,n2,n3⟩:=h.now
 have cf:=j9y C h.fs (by omega)
 obtain⟨R1,T1⟩:=h.setC (ct+1) N
 obtain⟨R2,T2⟩:=R1.reset hN
 have fs3:RF ((H.upd F (.cells (RC vf vd vp (ct+1)) false false)).new (.cells [d] false false)).2 F vf vd vp (ct+1):=by
  unfold RF
  rw[z19 R1.top];exact R1.fs
 refine⟨_,_,?_,⟨_,_,_,_,_,R2,e1,rfl,rfl⟩,T1.trans T2⟩
 refine C.c33.re (by conv=>lhs;reduce) ?_
 simp(maxDischargeDepth:=9)only[auX,zA,z0c (z3y C R1 (by omega)),z0c cf,hl_g h.fs,z0z fs3,Rd.scal n2]
theorem y6o{N:Nat}{H:AHeap}{F:Pos}{files:List (List Nat×Nat)}{dirs:List (List Ent)}{es:List Ent}{np ct:Nat}{S:Pos->Prop}(h:RS H F files (dirs++[es]) np ct S)(hN:N<=H.nx.toNat)(he:es.length<=1000)(hd:dirs.length<=900)(hf:files.length<=900)(hp:np<=900)(hc:ct<=900000){nm:List Nat}(hn:IsNm nm){j:Nat}(h0:ratF nm es 0=.ofNat j){x:Nat}(hx:∃ hj:j<es.length,es[j].2=x)(hxl:x<files.length){to':List Nat}(hn2:IsNm to') :∃ H' S',z0f E 97 [.ptr F 0,.str nm,.str to'] H (.int .i64 (.ofNat 0)) H'/\RS H' F files (dirs++[es]++[z1k es x to']) (np+1) (ct+1) S'/\Step N S H S' H':=by
 obtain⟨vf,vd,vp,fl,ds,h,e1,e2,rfl⟩:=h
 obtain⟨ds0,⟨d,es'⟩,rfl,e3,e4⟩:=z4j e2
 have e4:es'=es:=e4
 subst e4
 have l1:fl.length=files.length:=by rw[<-e1,List.length_map]
 have l2:ds0.length=dirs.length:=by rw[<-e3,List.length_map]
 obtain⟨n1,n2,n3⟩:=h.now
 obtain⟨hj,hx⟩:=hx
 have hxf:x<fl.length:=by omega
 obtain⟨bd,od,i1,_,_,i2⟩:=DirR.at n2 hj
 rw[hx]at i2
 obtain⟨bf,op,f1,f2,f3,f4,f5⟩:=h.setF hxf
 obtain⟨vd',vp',w,H',c1,R2,S2⟩:=q5f C h hN (by omega) (by omega) (by omega) (by omega) x to'
 refine⟨H',_,?_,⟨_,_,_,_,_,R2,e1,?_,rfl⟩,S2⟩
 .refine C.c97.re (by conv=>lhs;reduce) ?_
  simp(maxDischargeDepth:=9)only[auX,z0c (y7y C hn2),z0c (z4d C h.fs hn),z0c (z3y C h (by omega)),z0c (at_k C n2 (by omega) nm),h0,i1,i2,show ¬ j<0 by omega,z0c c1]
 .simp[e3]
theorem y11{H:AHeap} :∃ F H' S',z0f E 24 [.int .i64 (.ofNat 2147483647)] H (.ptr F 0) H'/\RS H' F [] [[]] 0 0 S'/\Keep H.nx.toNat H H'/\∀ p,S' p->H.nx.toNat<=p.toNat:=by
 have k1:Keep H.nx.toNat H (H.new (.cells [.snil] false false)).2:=z0d
 have k2:Keep _ _ ((H.new (.cells [.snil] false false)).2.new (.cells (RC .snil (.sl H.nx 0 1 1 0) .snil 0) false false)).2:=z0d
 have hlt:H.nx.toNat<H.nx.succ.toNat:=z0h
 have gF:RF ((H.new (.cells [.snil] false false)).2.new (.cells (RC .snil (.sl H.nx 0 1 1 0) .snil 0) false false)).2 H.nx.succ .snil (.sl H.nx 0 1 1 0) .snil 0:=z0i (H:=(H.new (.cells [.snil] false false)).2)
 have g1:PT.get H.nx ((H.new (.cells [.snil] false false)).2.new (.cells (RC .snil (.sl H.nx 0 1 1 0) .snil 0) false false)).2.t=some (.cells [.snil] false false):=by rw[k2.get _ hlt];exact z0i
 refine⟨H.nx.succ,_,_,?_,⟨.snil,.sl H.nx 0 1 1 0,.snil,[],[(.snil,[])],⟨gF,z0h,GS.nil,⟨rfl,.inr ⟨H.nx,0,false,rfl,g1,.inl rfl,Nat.lt_of_lt_of_le hlt k2.nx⟩⟩,⟨[],GS.nil⟩,(fun f hf=>by cases hf),fun d hd=>?_,⟨(fun e=>by cases e),fun e=>?_,(fun e=>by cases e)⟩,(fun p=>⟨(fun e=>by cases e),(fun _ e=>by cases e)⟩),(fun f hf=>by cases hf),fun d hd p hp=>?_⟩,rfl,rfl,rfl⟩,k1.trans (k2.mono k1.nx),?_⟩
 .refine C.c24.re (by conv=>lhs;reduce) ?_
  simp(maxDischargeDepth:=9)only[auX,bq,Nat.reduceLT]
 .obtain rfl:d=(.snil,[]):=by simpa using hd
  exact⟨rfl,.inl ⟨rfl,rfl⟩⟩
 .have e:H.nx.succ=H.nx:=e
  rw[e]at hlt;omega
 .obtain rfl:d=(.snil,[]):=by simpa using hd
  cases hp
 .rintro p ((rfl | e | e | e) | ⟨f,hf,hp⟩ | ⟨d,hd,hp⟩)
  .omega
  .cases e
  .cases e;exact lr
  .cases e
  .cases hf
  .obtain rfl:d=(.snil,[]):=by simpa using hd
   cases hp
end
abbrev FV:=List Nat×AVal×List Nat
def fvs(fs:List FV) :List AVal:=fs.flatMap fun f=>[.str f.1,f.2.1]
def z5l(H:AHeap)(v:AVal)(fs:List (List Nat×List Nat)) :Prop:=∃ l:List FV,l.map (fun f=>(f.1,f.2.2))=fs/\Rd 2 H v l.length (fvs l)/\∀ f∈l,Rd 1 H f.2.1 f.2.2.length (z0b f.2.2)/\∀ u∈f.2.2,u<256
theorem z5l.keep{m:Nat}{H H':AHeap}{v:AVal}{fs:List (List Nat×List Nat)}(h:z5l H v fs)(k:Keep m H H')(hm:H.nx.toNat<=m) :z5l H' v fs:=by
 obtain⟨l,h1,h2,h3⟩:=h
 exact⟨l,h1,h2.keep k hm,fun f hf=>⟨(h3 f hf).1.keep k hm,(h3 f hf).2⟩⟩
def z2c(N:Nat)(H:AHeap)(v:AVal)(fs:List (List Nat×List Nat)) :Prop:=∃ l:List FV,l.map (fun f=>(f.1,f.2.2))=fs/\Rd 2 H v l.length (fvs l)/\(∀ p,blk v p->N<=p.toNat)/\∀ f∈l,(Rd 1 H f.2.1 f.2.2.length (z0b f.2.2)/\∀ u∈f.2.2,u<256)/\∀ p,blk f.2.1 p->N<=p.toNat
theorem z2c.r{N:Nat}{H:AHeap}{v:AVal}{fs:List (List Nat×List Nat)}(h:z2c N H v fs) :z5l H v fs:=by
 obtain⟨l,h1,h2,_,h3⟩:=h
 exact⟨l,h1,h2,fun f hf=>(h3 f hf).1⟩
theorem z2c.keep{N m:Nat}{H H':AHeap}{v:AVal}{fs:List (List Nat×List Nat)}(h:z2c N H v fs)(k:Keep m H H')(hm:H.nx.toNat<=m) :z2c N H' v fs:=by
 obtain⟨l,h1,h2,h3,h4⟩:=h
 exact⟨l,h1,h2.keep k hm,h3,fun f hf=>⟨⟨(h4 f hf).1.1.keep k hm,(h4 f hf).1.2⟩,(h4 f hf).2⟩⟩
theorem z2c.mono{N M:Nat}{H:AHeap}{v:AVal}{fs:List (List Nat×List Nat)}(h:z2c N H v fs)(hm:M<=N) :z2c M H v fs:=by
 obtain⟨l,h1,h2,h3,h4⟩:=h
 exact⟨l,h1,h2,fun p hp=>Nat.le_trans hm (h3 p hp),fun f hf=>⟨(h4 f hf).1,fun p hp=>Nat.le_trans hm ((h4 f hf).2 p hp)⟩⟩
def z6d(files:List (List Nat×Nat))(es:List Ent) :List (List Nat×List Nat):=es.map fun e=>(e.1,((files.getD e.2 ([],0)).1.take (files.getD e.2 ([],0)).2))
section
variable{E:Env}(C:Ck E)
include C
theorem y6p{H:AHeap}{F:Pos}{files:List (List Nat×Nat)}{dirs:List (List Ent)}{es:List Ent}{np ct:Nat}{S:Pos->Prop}(h:RS H F files (dirs++[es]) np ct S)(he:es.length<=1000)(hd:dirs.length<=900)(hf:files.length<=900)(hp:np<=900)(hc:ct<=900000){nm:List Nat}(hn:IsNm nm){j:Nat}(h0:ratF nm es 0=.ofNat j){x:Nat}(hx:∃ hj:j<es.length,es[j].2=x)(hxl:x<files.length)(hbx:files[x].1.length<=1000000)(a n:Nat)(hn':n<=1000000000)(ha':a<=1000000000) :∃ w H',z0f E 116 [.ptr F 0,.str nm,.int .i64 (.ofNat a),.int .i64 (.ofNat n)] H (.tup [w,.int .i64 (.ofNat 0)]) H'/\GO 1 H.nx.toNat H' w ((files[x].1.drop a).take n).length (z0b ((files[x].1.drop a).take n))/\Keep H.nx.toNat H H':=by
 obtain⟨vf,vd,vp,fl,ds,h,e1,e2,rfl⟩:=h
 obtain⟨ds0,⟨d,es'⟩,rfl,e3,e4⟩:=z4j e2
 have e4:es'=es:=e4
 subst e4
 have l1:fl.length=files.length:=by rw[<-e1,List.length_map]
 have l2:ds0.length=dirs.length:=by rw[<-e3,List.length_map]
 obtain⟨n1,n2,n3⟩:=h.now
 obtain⟨hj,hx⟩:=hx
 have hxf:x<fl.length:=by omega
 obtain⟨bd,od,i1,_,_,i2⟩:=DirR.at n2 hj
 rw[hx]at i2
 obtain⟨bf,op,f1,f2,f3,f4,f5⟩:=h.setF hxf
 have e5:files[x]=fl[x].2:=by subst e1;simp
 rw[e5]at hbx
 rw[e5]
 have hd1:=(h.data _ (List.getElem_mem hxf)).1
 by_cases hal:fl[x].2.1.length<=a
 .refine⟨.snil,H,?_,⟨⟨?_,.inl ⟨rfl,?_⟩⟩,fun p hp=>by cases hp⟩,Keep.refl _ _⟩
  .refine C.c116.re (by conv=>lhs;reduce) ?_
   simp(maxDischargeDepth:=9)only[auX,bq,reduceCtorEq,zA,aZ,Nat.reduceAnd,z0c (z4d C h.fs hn),z0c (z3y C h (by omega)),z0j (z3y C h (by omega)),z0c (at_k C n2 (by omega) nm),h0,hl_g h.fs,h.sc,i1,i2,f1,f4,hd1.len,show ¬ j<0 by omega,show ¬ a<0 by omega,show ¬ n<0 by omega,hal]
  .rw[List.drop_eq_nil_of_le hal,List.take_nil];rfl
  .rw[List.drop_eq_nil_of_le hal,List.take_nil];rfl
 .obtain⟨w,w1,w2,w3,_⟩:=j6y hd1 (a:=a) (b:=a+min n (fl[x].2.1.length-a)) (by omega) (by omega) (by omega)
  have e6:((z0b fl[x].2.1).drop a).take (a+min n (fl[x].2.1.length-a)-a)=z0b ((fl[x].2.1.drop a).take n):=by
   rw[z9q,z3b]
   congr 1
   rw[show a+min n (fl[x].2.1.length-a)-a=min n (fl[x].2.1.length-a)by omega]
   rcases Nat.le_total n (fl[x].2.1.length-a)with hh | hh
   .rw[Nat.min_eq_left hh]
   .rw[Nat.min_eq_right hh,List.take_of_length_le (by simp),List.take_of_length_le (by simp;omega)]
  have e7:a+min n (fl[x].2.1.length-a)-a=((fl[x].2.1.drop a).take n).length:=by simp
  rw[e6,e7]at w1
  obtain⟨w',H',c1,G1,K1⟩:=z62 C w1 (by simp;omega)
  refine⟨w',H',?_,G1,K1⟩
  refine C.c116.re (by conv=>lhs;reduce) ?_
  simp(maxDischargeDepth:=9)only[auX,bq,reduceCtorEq,zA,aZ,Nat.reduceAnd,z0c (z4d C h.fs hn),z0c (z3y C h (by omega)),z0j (z3y C h (by omega)),z0c (at_k C n2 (by omega) nm),h0,hl_g h.fs,h.sc,i1,i2,f1,f4,hd1.len,show ¬ j<0 by omega,show ¬ a<0 by omega,show ¬ n<0 by omega,hal,z74 (i:=fl[x].2.1.length) (k:=a) (by omega) (by omega),y4g,z0o (i:=a) (k:=min n (fl[x].2.1.length-a)) (by omega),w3,z0c c1]
theorem q1m{H:AHeap}{F:Pos}{files:List (List Nat×Nat)}{dirs:List (List Ent)}{es:List Ent}{np ct:Nat}{S:Pos->Prop}(h:RS H F files (dirs++[es]) np ct S)(he:es.length<=1000)(hd:dirs.length<=900)(hf:files.length<=900)(hp:np<=900)(hc:ct<=900000) :∃ w H',z0f E 103 [.ptr F 0] H w H'/\GO 1 H.nx.toNat H' w es.length (es.map fun e=>.str e.1)/\Keep H.nx.toNat H H':=by
 obtain⟨vf,vd,vp,fl,ds,h,e1,e2,rfl⟩:=h
 obtain⟨ds0,⟨d,es'⟩,rfl,e3,e4⟩:=z4j e2
 have e4:es'=es:=e4
 subst e4
 have l1:fl.length=files.length:=by rw[<-e1,List.length_map]
 have l2:ds0.length=dirs.length:=by rw[<-e3,List.length_map]
 obtain⟨n1,n2,n3⟩:=h.now
 refine C.c103.rr (by conv=>lhs;reduce) ?_
 simp(maxDischargeDepth:=9)only[auX,zA,hl_g h.fs]
 refine W.loopI (fun k t H'=>∃ i l,i+k=es'.length/\PT.get .h t=some (.ptr F 0)/\PT.get (.o (.o .h)) t=some (l)/\PT.get (.i (.o .h)) t=some (.int .i64 (.ofNat i))/\GO 1 H.nx.toNat H' l i ((es'.take i).map fun e=>.str e.1)/\Keep H.nx.toNat H H') ?_ es'.length _ _ ⟨0,.snil,by omega,rfl,rfl,rfl,GO.nil,Keep.refl _ _⟩
 rintro k t H' ⟨i,l,hi,g0,g3,g4,hG,hK⟩
 have h':=h.keep hK lr
 obtain⟨n1',n2',_⟩:=h'.now
 by_cases hk:k=0
 .obtain rfl:i=es'.length:=by omega
  simp(maxDischargeDepth:=9)only[auX,↓reduceIte,g0,g3,g4,z0c (z3y C h' (by omega)),Rd.len n2',show ¬ es'.length<es'.length by omega]
  rw[List.take_length]at hG
  exact⟨hG,hK⟩
 .have hi2:i<es'.length:=by omega
  obtain⟨b,o,d1,_,d2,_⟩:=DirR.at n2' hi2
  obtain⟨w1,H1,a1,G1,K1⟩:=z4q (by':=16) (by omega) hG hK.nx (row:=[.str es'[i].1]) rfl rfl (by omega)
  simp(maxDischargeDepth:=9)only[auX,aZ,g0,g3,g4,z0c (z3y C h' (by omega)),Rd.len n2',hi2,d1,d2,z0r a1,z0o (i:=i) (k:=1) (by omega)]
  exact⟨k-1,by omega,i+1,w1,by omega,rfl,rfl,by rw[List.take_succ_eq_append_getElem hi2,List.map_append];exact G1,hK.trans K1⟩
theorem q7b{H:AHeap}{F:Pos}{files:List (List Nat×Nat)}{es:List Ent}{ct:Nat}{S:Pos->Prop}(h:RS H F files [es] 0 ct S)(he:es.length<=1000)(hb:∀ f∈files,f.1.length<=1000000/\f.2<=f.1.length)(hx:∀ e∈es,e.2<files.length) :∃ w H',z0f E 92 [.ptr F 0,.int .i64 (.ofNat 0),.snil] H w H'/\z2c H.nx.toNat H' w (z6d files es)/\Keep H.nx.toNat H H':=by
 obtain⟨vf,vd,vp,fl,ds,h,e1,e2,rfl⟩:=h
 obtain⟨ds0,⟨d,es'⟩,rfl,e3,e4⟩:=z4j (m:=[]) e2
 have e4:es'=es:=e4
 subst e4
 obtain rfl:ds0=[]:=by simpa using e3
 have l1:fl.length=files.length:=by rw[<-e1,List.length_map]
 obtain⟨n1,n2,n3⟩:=h.now
 obtain⟨b1,o1,c1,c2⟩:=Rd.at1 n1 (i:=0) (x:=d) (by simp)
 obtain⟨pcs,gp⟩:=h.gp
 refine C.c92.rr (by conv=>lhs;reduce) ?_
 simp(maxDischargeDepth:=9)only[auX,zA,hl_g h.fs,c1,c2]
 refine W.loopI (fun k t H'=>H'=H/\PT.get .h t=some (.ptr F 0)/\PT.get (.i .h) t=some (.snil)/\PT.get (.o (.o (.o .h))) t=some (d)/\PT.get (.i (.o (.o .h))) t=some (.int .i64 (.ofNat 0))) ?_ 0 _ _ ⟨rfl,rfl,rfl,rfl,rfl⟩
 rintro k t H' ⟨rfl,g0,g2,g7,g8⟩
 simp(maxDischargeDepth:=9)only[auX,↓reduceIte,Nat.reduceLT,zA,g0,g8,hl_g h.fs,gp.rd.len]
 refine W.loopI (fun k t H2=>∃ (i:Nat) (l:AVal) (fs:List FV),i+k=es'.length/\PT.get .h t=some (.ptr F 0)/\PT.get (.i .h) t=some (.snil)/\PT.get (.o (.o (.o .h))) t=some (d)/\PT.get (.o (.i (.o .h))) t=some (l)/\PT.get (.i (.i (.o .h))) t=some (.int .i64 (.ofNat i))/\fs.map (fun f=>(f.1,f.2.2))=(z6d files es').take i/\fs.length=i/\GO 2 H'.nx.toNat H2 l i (fvs fs)/\(∀ f∈fs,Rd 1 H2 f.2.1 f.2.2.length (z0b f.2.2)/\(∀ p,blk f.2.1 p->¬ blk l p/\H'.nx.toNat<=p.toNat)/\∀ u∈f.2.2,u<256)/\Keep H'.nx.toNat H' H2) ?_ es'.length _ _ ⟨0,.snil,[],by omega,by simp(maxDischargeDepth:=9)only[auX,g0],by simp(maxDischargeDepth:=9)only[auX,g2],by simp(maxDischargeDepth:=9)only[auX,g7],by simp(maxDischargeDepth:=9)only[auX],by simp(maxDischargeDepth:=9)only[auX],rfl,rfl,GO.nil,fun f hf=>by(cases hf),Keep.refl _ _⟩
 rintro k t H2 ⟨i,l,fs,hi,g0,g2,g7,g9,g10,hfs,hfl,hG,hD,hK⟩
 have h':=h.keep hK lr
 obtain⟨n1',n2',_⟩:=h'.now
 by_cases hk:k=0
 .obtain rfl:i=es'.length:=by omega
  simp(maxDischargeDepth:=9)only[auX,↓reduceIte,g7,g9,g10,Rd.len n2',show ¬ es'.length<es'.length by omega]
  refine⟨⟨fs,?_,by rw[hfl];exact hG.1.rd,hG.2,fun f hf=>⟨⟨(hD f hf).1,(hD f hf).2.2⟩,fun p hp=>((hD f hf).2.1 p hp).2⟩⟩,hK⟩
  rw[hfs,List.take_of_length_le (by simp[z6d])]
 .have hi2:i<es'.length:=by omega
  have hxx:=hx _ (List.getElem_mem hi2)
  obtain⟨b,o,d1,_,d2,d3⟩:=DirR.at n2' hi2
  generalize hxe:es'[i].2=x at *
  have hxf:x<fl.length:=by omega
  obtain⟨bf,op,f1,f2,f3,f4,f5⟩:=h'.setF hxf
  have e5:files[x]=fl[x].2:=by subst e1;simp
  have hb5:=hb _ (List.getElem_mem hxx)
  rw[e5]at hb5
  have f6:z0t H2 bf (x*2) 2=some [fl[x].1,.int .i64 (.ofNat fl[x].2.2)]:=by
   rw[z2x f2,z27 (by have:=(h'.gf).1;omega)]
   exact congrArg some (z9k (fun f:FD=>[f.1,.int .i64 (.ofNat f.2.2)]) 2 (fun _=>rfl) fl x hxf)
  have hfd:=h.data _ (List.getElem_mem hxf)
  have kq:Keep H2.nx.toNat H2 (H2.new (.cells [fl[x].1,.int .i64 (.ofNat fl[x].2.2)] false false)).2:=z0d
  have hd2:=(h'.data _ (List.getElem_mem hxf)).1.keep kq lr
  obtain⟨ws,s1,_,s3⟩:=y06 hd2 hb5.2
  rw[z3b]at s1
  have hln:(fl[x].2.1.take fl[x].2.2).length=fl[x].2.2:=by rw[List.length_take];omega
  obtain⟨w1,H1,b1,G1,K1⟩:=z62 C (us:=fl[x].2.1.take fl[x].2.2) (by rw[hln];exact s1) (by omega)
  have kn:=kq.nx
  have kn1:=K1.nx
  have kl:H2.nx.toNat<(H2.new (.cells [fl[x].1,.int .i64 (.ofNat fl[x].2.2)] false false)).2.nx.toNat:=z0h
  have K2:=kq.trans (K1.mono kn)
  have n3:=Rd.keep n2' K2 lr
  obtain⟨b',o',x1,_,x2,_⟩:=DirR.at n3 hi2
  rw[d1]at x1
  cases x1
  have hG1:GO 2 H'.nx.toNat H1 l i (fvs fs):=⟨hG.1.keep K2 lr,hG.2⟩
  have hkn:=hK.nx
  obtain⟨w2,H3,a1,G3,K3,fr,fb,nn⟩:=z2u (by':=40) (by omega) hG1 (by omega) (row:=[.str es'[i].1,w1]) rfl (by rw[z0p z9h,z0p G1.1.rd.scal];rfl) (by omega)
  have hl2:=fun p hp=>hG.1.rd.blk_lt p hp
  simp(maxDischargeDepth:=9)only[auX,reduceCtorEq,Nat.reduceAdd,zA,aZ,Nat.reduceAnd,g0,g2,g7,g9,g10,Rd.len n2',hi2,d1,d3,x2,hl_g h'.fs,f1,f6,hfd.1.scal,s3,z0c b1,z0o (i:=fl[x].2.2) (k:=0) (by omega),G1.1.rd.scal,z0r a1,z0o (i:=i) (k:=1) (by omega),show ¬ i<0 by omega]
  refine⟨k-1,by omega,i+1,w2,fs++[(es'[i].1,w1,fl[x].2.1.take fl[x].2.2)],by omega,rfl,rfl,?_,by simp[hfl],?_,?_,(hK.trans (K2.mono hkn)).trans K3⟩
  .rw[List.map_append,hfs,List.take_succ_eq_append_getElem (by simpa[z6d]using hi2)]
   congr 1
   simp[z6d,hxe,e5,List.getD,hxx]
  .have:fvs (fs++[(es'[i].1,w1,fl[x].2.1.take fl[x].2.2)])=fvs fs++[.str es'[i].1,w1]:=by simp[fvs]
   rw[this];exact G3
  .intro f hf
   rcases List.mem_append.1 hf with hf | hf
   .obtain⟨y1,y2,y3⟩:=hD f hf
    have y4:=fun p hp=>y1.blk_lt p hp
    refine⟨y1.other (fun p hp=>?_) (by omega),fun p hp=>⟨fun hb=>?_,(y2 p hp).2⟩,y3⟩
    .rw[fr p (by have:=y4 p hp;omega) (y2 p hp).1,K2.get p (y4 p hp)]
    .have:=fb p hb;have:=y4 p hp;omega
   .obtain rfl:f=(es'[i].1,w1,fl[x].2.1.take fl[x].2.2):=by simpa using hf
    have y4:=fun p hp=>G1.1.rd.blk_lt p hp
    refine⟨?_,fun p hp=>⟨fun hb=>?_,by have:=G1.2 p hp;omega⟩,fun u hu=>hfd.2 u (List.mem_of_mem_take hu)⟩
    .exact G1.1.rd.other (fun p hp=>fr p (y4 p hp) (fun hb=>by have:=G1.2 p hp;have:=hl2 p hb;omega)) nn
    .have:=fb p hb;have:=y4 p hp;omega
end
end Go.Am
end
section
namespace Go.Am
open Go
def b4(m:Nat) :List Nat:=[m/16777216%256,m/65536%256,m/256%256,m%256]
theorem j2p(m:Nat) :∀ u∈b4 m,u<256:=by
 intro u hu
 simp only[b4,List.mem_cons,List.not_mem_nil,or_false]at hu
 omega
def hd4(k n:Nat) :List Nat:=[112,k,n/256,n%256]
def fenc(k:Nat)(p:List Nat) :List Nat:=hd4 k p.length++(b4 (z2m (hd4 k p.length))++(p++b4 (z2m p)))
theorem z0k(n:Nat) :(b4 n).length=4:=rfl
theorem z06(k:Nat)(p:List Nat) :(fenc k p).length=12+p.length:=by
 simp[fenc,hd4,z0k];omega
abbrev z34(k:Nat) :Prop:=k=1\/k=2\/k=3
abbrev flen(b:List Nat) :Nat:=b.getD 2 0*256+b.getD 3 0
def fdec(b:List Nat) :Option (Nat×List Nat) :=
 if 12+flen b<=b.length/\flen b<=1024/\z34 (b.getD 1 0)/\b.take (12+flen b)=fenc (b.getD 1 0) ((b.drop 8).take (flen b))then some (b.getD 1 0,(b.drop 8).take (flen b))else none
theorem z1y{b:List Nat}{k:Nat}{p:List Nat}(h:fdec b=some (k,p)) :z34 k/\p.length<=1024/\b=fenc k p++b.drop (12+p.length)/\12+p.length<=b.length/\p.length=flen b/\k=b.getD 1 0:=by
 unfold fdec at h
 split at h
 .rename_i c
  obtain⟨c1,c2,c3,c4⟩:=c
  simp only[Option.some.injEq,Prod.mk.injEq]at h
  obtain⟨rfl,rfl⟩:=h
  have hl:((b.drop 8).take (flen b)).length=flen b:=by simp;omega
  refine⟨c3,by omega,?_,by omega,hl,rfl⟩
  rw[hl,<-c4,List.take_append_drop]
 .cases h
theorem y9d{k:Nat}{p r:List Nat} :flen (fenc k p++r)=p.length/\(fenc k p++r).getD 1 0=k:=by
 refine⟨?_,rfl⟩
 show p.length/256*256+p.length%256=_
 omega
theorem z8s{k:Nat}{p r:List Nat}(hk:z34 k)(hp:p.length<=1024) :fdec (fenc k p++r)=some (k,p):=by
 obtain⟨e1,e2⟩:=@y9d k p r
 have e3:((fenc k p++r).drop 8).take p.length=p:=by
  have:(fenc k p++r).drop 8=p++b4 (z2m p)++r:=by simp[fenc,hd4,b4]
  rw[this]
  simp
 have e4:(fenc k p++r).take (12+p.length)=fenc k p:=by
  rw[<-z06 k p];simp
 unfold fdec
 rw[e1,e2,e3,e4,if_pos ⟨by rw[List.length_append,z06];omega,hp,hk,rfl⟩]
theorem y2u{b:List Nat}{m k:Nat}{p:List Nat}(h:fdec b=some (k,p))(hm:12+p.length<=m) :fdec (b.take m)=some (k,p):=by
 obtain⟨h1,h2,h3,_⟩:=z1y h
 rw[h3,List.take_append,List.take_of_length_le (by rw[z06];exact hm)]
 exact z8s h1 h2
theorem j73{b:List Nat}{m k:Nat}{p:List Nat}(h:fdec (b.take m)=some (k,p)) :fdec b=some (k,p):=by
 obtain⟨h1,h2,h3,_⟩:=z1y h
 have:b=fenc k p++((b.take m).drop (12+p.length)++b.drop m):=by
  rw[<-List.append_assoc,<-h3,List.take_append_drop]
 rw[this]
 exact z8s h1 h2
theorem j0v{b:List Nat}{m:Nat}(hm:1036<=m) :fdec (b.take m)=fdec b:=by
 cases h:fdec b with
 | none =>
  cases h':fdec (b.take m)with
  | none=>rfl
  | some r=>obtain⟨k,p⟩:=r;rw[j73 h']at h;cases h
 | some r =>
  obtain⟨k,p⟩:=r
  exact y2u h (by have:=(z1y h).2.1;omega)
def row:Nat->Nat->List Nat->Option (List (List Nat))
 | 0,_,_=>none
 | f+1,c,b=>match fdec b with
  | some (k,p)=>if k=2 then(row f (c+1) (b.drop (12+p.length))).map (p :: ·)else if k=3/\p=b4 c/\b.length=12+p.length then some []else none
  | none=>none
def rows(b:List Nat) :Option (List Nat×List (List Nat)):=match fdec b with
 | some (k,h)=>if k=1 then(row b.length 0 (b.drop (12+h.length))).map fun l=>(h,l)else none
 | none=>none
def z3m(h:List Nat)(ds:List (List Nat)) :List Nat:=fenc 1 h++(ds.flatMap (fenc 2)++fenc 3 (b4 ds.length))
theorem y6m{f c:Nat}{b:List Nat}(h:fdec b=some (3,b4 c))(hb:b.length=16) :row (f+1) c b=some []:=by
 simp[row,h,hb,z0k]
theorem j4s{f c:Nat}{b p:List Nat}(h:fdec b=some (2,p)) :row (f+1) c b=(row f (c+1) (b.drop (12+p.length))).map (p :: ·):=by
 simp only[row,h,if_true]
theorem y1d:∀ (ds:List (List Nat)) (f c:Nat),(∀ p∈ds,p.length<=1024)->ds.length<f->row f c (ds.flatMap (fenc 2)++fenc 3 (b4 (c+ds.length)))=some ds
 | [],f,c,_,hf=>by
  obtain⟨f,rfl⟩ :∃ m,f=m+1:=⟨f-1,by simp at hf;omega⟩
  have:=@z8s 3 (b4 c) [] (.inr (.inr rfl)) (by rw[z0k];omega)
  rw[List.append_nil]at this
  rw[List.flatMap_nil,List.nil_append,List.length_nil,Nat.add_zero]
  exact y6m this (by rw[z06,z0k])
 | p::ds,f,c,hp,hf=>by
  obtain⟨f,rfl⟩ :∃ m,f=m+1:=⟨f-1,by simp at hf;omega⟩
  rw[List.flatMap_cons,List.append_assoc]
  rw[j4s (z8s (.inr (.inl rfl)) (hp p (by simp)))]
  have e:(fenc 2 p++(ds.flatMap (fenc 2)++fenc 3 (b4 (c+(p::ds).length)))).drop (12+p.length)=ds.flatMap (fenc 2)++fenc 3 (b4 (c+1+ds.length)):=by
   rw[<-z06 2 p,List.drop_left,List.length_cons,show c+(ds.length+1)=c+1+ds.length by omega]
  rw[e,y1d ds f (c+1) (fun q hq=>hp q (List.mem_cons_of_mem _ hq)) (by simp at hf;omega)]
  rfl
theorem y6k{h:List Nat}{ds:List (List Nat)}(hh:h.length<=1024)(hp:∀ p∈ds,p.length<=1024) :rows (z3m h ds)=some (h,ds):=by
 unfold z3m
 have e:rows (fenc 1 h++(ds.flatMap (fenc 2)++fenc 3 (b4 ds.length)))=(row (fenc 1 h++(ds.flatMap (fenc 2)++fenc 3 (b4 ds.length))).length 0 ((fenc 1 h++(ds.flatMap (fenc 2)++fenc 3 (b4 ds.length))).drop (12+h.length))).map fun l=>(h,l):=by
  unfold rows
  rw[z8s (.inl rfl) hh]
  exact if_pos rfl
 rw[e]
 rw[<-z06 1 h,List.drop_left]
 have:=y1d ds (fenc 1 h++(ds.flatMap (fenc 2)++fenc 3 (b4 ds.length))).length 0 hp (by
  have:∀ ds:List (List Nat),ds.length<=(ds.flatMap (fenc 2)).length:=fun ds=>by
   induction ds with
   | nil=>simp
   | cons a l ih=>simp only[List.flatMap_cons,List.length_append,List.length_cons,z06];omega
  have:=this ds
  simp only[List.length_append,z06]
  omega)
 rw[Nat.zero_add]at this
 rw[this]
 rfl
end Go.Am
end
section
namespace Go.Am
open Go Go.Proofs
def stn(r:Nat) :Nat->Nat
 | 0=>r
 | n+1=>st1 (stn r n)
theorem q85{c:Nat}(h:c<4294967296) :z0l .sub (.int .u32 (.ofNat 4294967295)) (.int .u32 (.ofNat c))=some (.int .u32 (.ofNat (4294967295-c))):=by
 rw[s32 (by omega)]
 show some (AVal.int .u32 (.ofNat ((4294967295-c)%4294967296)))=_
 rw[Nat.mod_eq_of_lt (by omega)]
theorem y3d{us:List Nat}{i:Nat}(h:i<us.length) :(z0b us)[i]? = some (.int .u8 (.ofNat us[i])):=by
 induction us generalizing i with
 | nil=>simp at h
 | cons a l ih =>
  cases i with
  | zero=>rfl
  | succ i=>simp only[z0b,List.getElem?_cons_succ,List.getElem_cons_succ];exact ih (by simpa using h)
def By(H:AHeap)(v:AVal)(us:List Nat) :Prop:=Rd 1 H v us.length (z0b us)/\∀ u∈us,u<256
theorem By.keep{m:Nat}{H H':AHeap}{v:AVal}{us:List Nat}(h:By H v us)(k:Keep m H H')(hm:H.nx.toNat<=m) :By H' v us:=⟨h.1.keep k hm,h.2⟩
theorem By.at{H:AHeap}{v:AVal}{us:List Nat}(h:By H v us){i:Nat}(hi:i<us.length) :∃ b o,z2t 1 v (.int .i64 (.ofNat i))=some (.ptr b o)/\z04 H b o=some (.int .u8 (.ofNat us[i])):=h.1.at1 (y3d hi)
theorem By.atS{H:AHeap}{v:AVal}{us:List Nat}(h:By H v us){i:Nat}(hi:i<us.length) :∃ b o,z2t 1 v (.int .i64 (.ofNat i))=some (.ptr b o)/\∀ H2,Keep H.nx.toNat H H2->z04 H2 b o=some (.int .u8 (.ofNat us[i])):=by
 obtain⟨b,o,h1,_⟩:=h.at hi
 refine⟨b,o,h1,fun H2 k=>?_⟩
 obtain⟨b',o',h1',h2⟩:=(h.keep k lr).at hi
 rw[h1]at h1'
 cases h1'
 exact h2
theorem y4v(r:Nat)(bs:List Nat)(b:Nat) :j0j r (bs++[b])=crc8 (j0j r bs) b:=by unfold j0j;rw[List.foldl_append,List.foldl_cons,List.foldl_nil]
theorem sh24(m:Nat) :z0l .shr (.int .i64 (.ofNat m)) (.int .u64 (.ofNat 24))=some (.int .i64 (.ofNat (m/16777216))):=rfl
theorem sh16(m:Nat) :z0l .shr (.int .i64 (.ofNat m)) (.int .u64 (.ofNat 16))=some (.int .i64 (.ofNat (m/65536))):=rfl
theorem sh8(m:Nat) :z0l .shr (.int .i64 (.ofNat m)) (.int .u64 (.ofNat 8))=some (.int .i64 (.ofNat (m/256))):=rfl
theorem sg24(m:Nat) :z0l .shr (.int .u32 (.ofNat m)) (.int .u64 (.ofNat 24))=some (.int .u32 (.ofNat (m/16777216))):=rfl
theorem sg16(m:Nat) :z0l .shr (.int .u32 (.ofNat m)) (.int .u64 (.ofNat 16))=some (.int .u32 (.ofNat (m/65536))):=rfl
theorem sg8(m:Nat) :z0l .shr (.int .u32 (.ofNat m)) (.int .u64 (.ofNat 8))=some (.int .u32 (.ofNat (m/256))):=rfl
theorem shs:type_of% (And.intro @sh24 (And.intro @sh16 (And.intro @sh8 (And.intro @sg24 (And.intro @sg16 @sg8))))):=And.intro @sh24 (And.intro @sh16 (And.intro @sh8 (And.intro @sg24 (And.intro @sg16 @sg8))))
def Bo(N:Nat)(H:AHeap)(v:AVal)(us:List Nat) :Prop:=GO 1 N H v us.length (z0b us)/\∀ u∈us,u<256
theorem Bo.by{N:Nat}{H:AHeap}{v:AVal}{us:List Nat}(h:Bo N H v us) :By H v us:=⟨h.1.1.rd,h.2⟩
theorem Bo.keep{N m:Nat}{H H':AHeap}{v:AVal}{us:List Nat}(h:Bo N H v us)(k:Keep m H H')(hm:H.nx.toNat<=m) :Bo N H' v us:=⟨⟨h.1.1.keep k hm,h.1.2⟩,h.2⟩
theorem z7p{N:Nat}{H:AHeap}{v x:AVal}{us ws:List Nat}(h:Bo N H v us)(hN:N<=H.nx.toNat)(hx:By H x ws)(hb:us.length+ws.length<=1000000000) :∃ w H',z09 H 1 1 v x=some (w,H')/\Bo N H' w (us++ws)/\Keep N H H':=by
 obtain⟨w,H',e1,e2,e3⟩:=q5q (by':=1) (by omega) h.1 hN hx.1.src (by rw[z1d];omega) (z3p ws) (by omega)
 exact⟨w,H',e1,⟨by rw[List.length_append,z33];exact e2,fun u hu=>(List.mem_append.1 hu).elim (h.2 u) (hx.2 u)⟩,e3⟩
theorem z5g{H:AHeap}(us:List Nat)(hu:∀ u∈us,u<256) :Bo H.nx.toNat (H.new (.cells (z0b us) false false)).2 (.sl H.nx 0 us.length us.length 0) us :=
 ⟨⟨⟨by rw[z1d];omega,.inr ⟨H.nx,0,false,rfl,z0i,.inl rfl,z0h⟩⟩,fun p hp=>by cases hp;exact lr⟩,hu⟩
theorem By.sc{H:AHeap}{v:AVal}{us:List Nat}(h:By H v us) :(∀ H2,fLen H2 1 v=some (.int .i64 (.ofNat us.length)))/\z1g v=true/\same v v=true:=⟨fun _=>h.1.len,h.1.scal,h.1.same⟩
section
variable{E:Env}(C:Ck E)
include C
theorem y01{H:AHeap}{v:AVal}{us:List Nat}(h:By H v us)(hl:us.length<=1000000000){c:Nat}(hc:c<4294967296) :z0f E 206 [.int .u32 (.ofNat c),v] H (.int .u32 (.ofNat (z2j c us))) H:=by
 refine C.c206.re (by conv=>lhs;reduce) ?_
 simp(maxDischargeDepth:=9)only[auX,q85 hc]
 refine W.loopI (fun k t H'=>∃ i,i+k=us.length/\PT.get (.o .h) t=some (v)/\PT.get (.o (.i .h)) t=some (.int .u32 (.ofNat (j0j (4294967295-c) (us.take i))))/\PT.get (.i (.i .h)) t=some (.int .i64 (.ofNat i))/\H'=H) ?_ us.length _ _ ⟨0,by omega,rfl,rfl,rfl,rfl⟩
 rintro k t H' ⟨i,hi,g1,g5,g6,rfl⟩
 have hlt:=y28 (us.take i) (r:=4294967295-c) (by omega)
 by_cases hk:k=0
 .obtain rfl:i=us.length:=by omega
  rw[List.take_length]at g5 hlt
  simp(maxDischargeDepth:=9)only[auX,↓reduceIte,g1,g5,g6,h.sc,show ¬ us.length<us.length by omega,q85 hlt]
  rfl
 .have hi2:i<us.length:=by omega
  obtain⟨b,o,e1,e2⟩:=h.at hi2
  have hb:=h.2 _ (List.getElem_mem hi2)
  have hm:us[i]%4294967296=us[i]:=Nat.mod_eq_of_lt (by omega)
  simp(maxDischargeDepth:=9)only[auX,g1,g5,g6,h.sc,hi2,e1,e2,hm]
  generalize hr0:Nat.mod (Nat.mod (Nat.xor (j0j (4294967295-c) (us.take i)) (Nat.mod (us[i]*16777216) 4294967296)) 4294967296) 4294967296=r0
  refine W.loopI (fun k2 t H2=>∃ j,j+k2=8/\PT.get (.o .h) t=some (v)/\PT.get (.o (.i .h)) t=some (.int .u32 (.ofNat (stn r0 j)))/\PT.get (.i (.i .h)) t=some (.int .i64 (.ofNat i))/\PT.get (.o (.o (.o .h))) t=some (.int .i64 (.ofNat j))/\H2=H') ?_ 8 _ _ ⟨0,by omega,by simp(maxDischargeDepth:=9)only[auX,g1],by simp(maxDischargeDepth:=9)only[auX];rfl,by simp(maxDischargeDepth:=9)only[auX,g6],by simp(maxDischargeDepth:=9)only[auX],rfl⟩
  rintro k2 t H2 ⟨j,hj,g1,g5,g6,g7,rfl⟩
  by_cases hk2:k2=0
  .obtain rfl:j=8:=by omega
   simp(maxDischargeDepth:=9)only[auX,↓reduceIte,Nat.reduceLT,g1,g5,g6,g7,z0o (i:=i) (k:=1) (by omega)]
   refine⟨k-1,by omega,i+1,by omega,?_,rfl⟩
   rw[List.take_succ_eq_append_getElem hi2,y4v,<-show stn r0 8=crc8 _ us[i]by rw[<-hr0];rfl]
  .simp(maxDischargeDepth:=9)only[auX,g1,g5,g6,g7,show j<8 by omega,z0c (q86 C (r:=stn r0 j)),z0o (i:=j) (k:=1) (by omega)]
   exact⟨k2-1,by omega,j+1,by omega,rfl,rfl⟩
theorem q3s{H:AHeap}{v:AVal}{us:List Nat}(h:By H v us)(hl:us.length<=1000000000) :z0f E 269 [v] H (.int .u32 (.ofNat (z2m us))) H:=by
 refine C.c269.re (by conv=>lhs;reduce) ?_
 simp(maxDischargeDepth:=9)only[auX,z0c (y01 C h hl (c:=0) (by omega))]
theorem y86{H:AHeap}(m:Nat) :z0f E 268 [.int .u32 (.ofNat m)] H (.sl H.nx 0 4 4 0) (H.new (.cells (z0b (b4 m)) false false)).2:=by
 refine C.c268.re (by conv=>lhs;reduce) ?_
 simp(maxDischargeDepth:=9)only[auX,shs,z0b,b4]
theorem y85{H:AHeap}(m:Nat)(hm:m<4294967296) :z0f E 149 [.int .i64 (.ofNat m)] H (.sl H.nx 0 4 4 0) (H.new (.cells (z0b (b4 m)) false false)).2:=by
 refine C.c149.re (by conv=>lhs;reduce) ?_
 simp(maxDischargeDepth:=9)only[auX,shs,z0b,b4,Nat.mod_eq_of_lt hm]
end
theorem q9i(a:Nat) :z0l .rem (.int .i64 (.ofNat a)) (.int .i64 (.ofNat 256))=some (.int .i64 (.ofNat (a%256))):=rfl
theorem q43{k n:Nat}(hk:z34 k)(hn:n<=1024) :∀ u∈hd4 k n,u<256:=by
 intro u hu
 simp only[hd4,List.mem_cons,List.not_mem_nil,or_false]at hu
 rcases hk with rfl | rfl | rfl<;>omega
section
variable{E:Env}(C:Ck E)
include C
theorem q5e{H:AHeap}{v:AVal}{p:List Nat}(h:By H v p){k:Nat}(hk:z34 k)(hn:p.length<=1024) :∃ w H',z0f E 205 [.agg [.int .i64 (.ofNat k),v]] H (.tup [w,.int .i64 (.ofNat 0)]) H'/\Bo H.nx.toNat H' w (fenc k p)/\Keep H.nx.toNat H H':=by
 have ks:k%256=k/\¬ k<1/\¬ 3<k:=by rcases hk with rfl | rfl | rfl<;>omega
 have n1:p.length/256%256=p.length/256:=by omega
 have n2:p.length%256%256=p.length%256:=by omega
 have q1:Keep H.nx.toNat H (H.new (.cells [.int .i64 (.ofNat k),v] false false)).2:=z0d
 have g1:PT.get H.nx (H.new (.cells [.int .i64 (.ofNat k),v] false false)).2.t=some (.cells [.int .i64 (.ofNat k),v] false false):=z0i
 have l1:H.nx.toNat<(H.new (.cells [.int .i64 (.ofNat k),v] false false)).2.nx.toNat:=z0h
 have hsc:=h.sc
 generalize hHq:(H.new (.cells [.int .i64 (.ofNat k),v] false false)).2=Hq at q1 g1 l1
 have b1:=z5g (H:=Hq) (hd4 k p.length) (q43 hk hn)
 have q2:Keep Hq.nx.toNat Hq (Hq.new (.cells (z0b (hd4 k p.length)) false false)).2:=z0d
 have ehd:z0b (hd4 k p.length)=[.int .u8 (.ofNat 112),.int .u8 (.ofNat k),.int .u8 (.ofNat (p.length/256)),.int .u8 (.ofNat (p.length%256))]:=rfl
 have e4:(hd4 k p.length).length=4:=rfl
 rw[e4]at b1
 generalize hHb:(Hq.new (.cells (z0b (hd4 k p.length)) false false)).2=Hb at b1 q2
 have c1:=q3s C b1.by (by rw[e4];omega)
 have c2:=y86 C (H:=Hb) (z2m (hd4 k p.length))
 have q3:Keep Hb.nx.toNat Hb (Hb.new (.cells (z0b (b4 (z2m (hd4 k p.length)))) false false)).2:=z0d
 have b2:=z5g (H:=Hb) (b4 (z2m (hd4 k p.length))) (j2p _)
 rw[z0k]at b2
 obtain⟨w1,Hd,a1,B1,K1⟩:=z7p (b1.keep q3 lr) (by have:=q2.nx;have:=q3.nx;omega) b2.by (by rw[e4,z0k];omega)
 have gd:PT.get H.nx Hd.t=some (.cells [.int .i64 (.ofNat k),v] false false):=by rw[K1.get _ l1,q3.get _ (Nat.lt_of_lt_of_le l1 q2.nx),q2.get _ l1];exact g1
 have kd:Keep H.nx.toNat H Hd:=((q1.trans (q2.mono (by omega))).trans (q3.mono (by have:=q2.nx;omega))).trans (K1.mono (by omega))
 have hnd:=K1.nx
 have hnb:=q2.nx
 have hnc:=q3.nx
 obtain⟨w2,He,a2,B2,K2⟩:=z7p B1 (by omega) (h.keep kd lr) (by rw[List.length_append,e4,z0k];omega)
 have ge:PT.get H.nx He.t=some (.cells [.int .i64 (.ofNat k),v] false false):=by rw[K2.get _ l1];exact gd
 have hne:=K2.nx
 have ke:Keep H.nx.toNat H He:=kd.trans (K2.mono (by omega))
 have c3:=q3s C (h.keep ke lr) (by omega)
 have c4:=y86 C (H:=He) (z2m p)
 have q4:Keep He.nx.toNat He (He.new (.cells (z0b (b4 (z2m p))) false false)).2:=z0d
 have b3:=z5g (H:=He) (b4 (z2m p)) (j2p _)
 rw[z0k]at b3
 have hnf:=q4.nx
 obtain⟨w3,Hg,a3,B3,K3⟩:=z7p (B2.keep q4 lr) (by omega) b3.by (by simp only[List.length_append,e4,z0k];omega)
 have B4:Bo H.nx.toNat Hg w3 (fenc k p):=by
  have:fenc k p=hd4 k p.length++b4 (z2m (hd4 k p.length))++p++b4 (z2m p):=by unfold fenc;simp only[List.append_assoc]
  rw[this];exact⟨B3.1.mono (by omega),B3.2⟩
 refine⟨w3,Hg,?_,B4,ke.trans ((q4.mono (by omega)).trans (K3.mono (by omega)))⟩
 subst hHb
 subst hHq
 rw[ehd]at *
 refine C.c205.re (by conv=>lhs;reduce) ?_
 simp(maxDischargeDepth:=9)only[auX,bq,zA,aZ,ks,hsc,q21 (i:=p.length) (k:=256) (by omega) (by omega),q9i,n1,n2,show ¬ 1024<p.length by omega,z0c c1,z0c c2,z0r a1,hl_g gd,z0r a2,hl_g ge,z0c c3,z0c c4,z0r a3]
theorem q2q{H:AHeap}{v:AVal}{p:List Nat}(h:By H v p){k:Nat}(hk:¬ (z34 k/\p.length<=1024))(hn:p.length<=1000000) :∃ e H',z0f E 205 [.agg [.int .i64 (.ofNat k),v]] H (.tup [.snil,.int .i64 (.ofNat e)]) H'/\e≠0/\Keep H.nx.toNat H H':=by
 have q1:Keep H.nx.toNat H (H.new (.cells [.int .i64 (.ofNat k),v] false false)).2:=z0d
 have hsc:=h.sc
 by_cases k1:k<1
 .refine⟨30,_,?_,by omega,q1⟩
  refine C.c205.re (by conv=>lhs;reduce) ?_
  simp(maxDischargeDepth:=9)only[auX,aZ,k1]
 by_cases k3:3<k
 .refine⟨30,_,?_,by omega,q1⟩
  refine C.c205.re (by conv=>lhs;reduce) ?_
  simp(maxDischargeDepth:=9)only[auX,bq,aZ,k1,k3]
 .have:1024<p.length:=by
   rcases Nat.lt_or_ge 1024 p.length with h | h
   .exact h
   .exact absurd ⟨by unfold z34;omega,h⟩ hk
  refine⟨31,_,?_,by omega,q1⟩
  refine C.c205.re (by conv=>lhs;reduce) ?_
  simp(maxDischargeDepth:=9)only[auX,bq,zA,aZ,k1,k3,this,hsc]
end
end Go.Am
end
