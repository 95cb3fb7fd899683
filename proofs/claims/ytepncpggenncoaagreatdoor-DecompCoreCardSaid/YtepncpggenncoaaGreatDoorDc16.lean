import Derived.Test.YtepncpggenncoaaGreatDoorDc15
set_option linter.all false
set_option maxRecDepth 20000
set_option maxHeartbeats 8000000
namespace Go.Am
open Go Go.Proofs
def PNo(H:AHeap)(F:Pos)(nm:List Nat) :Prop:=∃ (m l h:Pos) (pv:AVal) (fl:List PF) (nl np ct:Nat),PSt H F m l h pv fl nl np ct/\nm∉fl.map PF.nm/\IsNm nm
theorem PNo.keep{m:Nat}{H H':AHeap}{F:Pos}{nm:List Nat}(h:PNo H F nm)(k:Keep m H H')(hm:H.nx.toNat<=m) :PNo H' F nm:=by
 obtain⟨a,l,b,pv,fl,nl,np,ct,s,h1,h2⟩:=h
 exact⟨a,l,b,pv,fl,nl,np,ct,s.keep k hm,h1,h2⟩
def cA(n:Nat)(o:Option (List Nat))(v:Nat) :Nat×Nat:=match o with
 | none=>(0,190)
 | some us=>match z7j us n v with
  | some x=>(x,0)
  | none=>(0,90)
theorem cA_n{us:List Nat}{n v:Nat}(h:z7j us n v=none) :cA n (some us) v=(0,90):=by simp only[cA,h]
theorem cA_s{us:List Nat}{n v x:Nat}(h:z7j us n v=some x) :cA n (some us) v=(x,0):=by simp only[cA,h]
theorem y4z{us:List Nat}{n v:Nat}(h:atF us 1 12=none) :z7j us n v=none:=by rw[<-y0a];unfold y90;rw[h]
theorem y0c{us h:List Nat}{n v:Nat}(h1:atF us 1 12=some h)(h2:atF (us.drop (24+v/200*812)) 2 (4*min 200 (n-v/200*200))=none) :z7j us n v=none:=by rw[<-y0a];unfold y90;rw[h1];simp only;rw[h2]
theorem y4y{us h p:List Nat}{n v:Nat}(h1:atF us 1 12=some h)(h2:atF (us.drop (24+v/200*812)) 2 (4*min 200 (n-v/200*200))=some p) :z7j us n v=if be4 h 0=1/\be4 h 4=n/\be4 p (4*(v%200))<=be4 h 8 then some (be4 p (4*(v%200)))else none:=by rw[<-y0a];unfold y90;rw[h1];simp only;rw[h2]
theorem q0b{us p:List Nat}{k n:Nat}(h:atF us k n=some p) :p.length=n:=by
 unfold atF at h
 split at h
 .split at h
  .rename_i c;cases h;exact c.2
  .cases h
 .cases h
section
variable{E:Env}(C:CkS E)
include C
theorem y7u{H:AHeap}(e:Nat) :z0f E 62 [.int .i64 (.ofNat e)] H (.int .i64 (.ofNat (if e=82 then 190 else e))) H:=by
 refine C.c62.re (by conv=>lhs;reduce) ?_
 by_cases h:e=82
 .simp(maxDischargeDepth:=9)only[auX,↓reduceIte,eq_true h]
 .simp(maxDischargeDepth:=9)only[auX,↓reduceIte,eq_false h]
theorem k3e{H:AHeap}{F:Pos}{nm:List Nat}(h:PNo H F nm)(a k n:Nat)(hn:n<=1000000) :∃ H',z0f E 66 [.ptr F 0,.str nm,.int .i64 (.ofNat a),.int .i64 (.ofNat k),.int .i64 (.ofNat n)] H (.tup [.snil,.int .i64 (.ofNat 190)]) H'/\Keep H.nx.toNat H H':=by
 obtain⟨m,l,b,pv,fl,nl,np,ct,s,h1,h2⟩:=h
 obtain⟨H1,c1,k1⟩:=y1i C s h1 h2 (.ofNat a) (.ofNat (n+12))
 refine⟨H1,?_,k1⟩
 have c2:=y7u C (H:=H1) 82
 rw[if_pos rfl]at c2
 refine C.c66.re (by conv=>lhs;reduce) ?_
 simp(maxDischargeDepth:=9)only[auX,reduceCtorEq,z0o (i:=n) (k:=12) (by omega),z0c c1,z0c c2]
theorem k17{H:AHeap}{F:Pos}{nm us:List Nat}(h:PHas H F nm us){a k n:Nat}(ha:a<=1000000)(hn:n<=100000) :∃ r H',z0f E 66 [.ptr F 0,.str nm,.int .i64 (.ofNat a),.int .i64 (.ofNat k),.int .i64 (.ofNat n)] H r H'/\((atF (us.drop a) k n=none/\r=.tup [.snil,.int .i64 (.ofNat 90)])\/∃ p w,atF (us.drop a) k n=some p/\r=.tup [w,.int .i64 (.ofNat 0)]/\By H' w p)/\Keep H.nx.toNat H H':=by
 have hb:=h.b
 obtain⟨w1,H1,c1,B1,k1⟩:=j4t C h a (n+12) (by omega) (by omega)
 have s1:=B1.sc
 obtain⟨r,H2,c2,D,k2⟩:=q5g C (hb.2.2.keep k1 lr) B1 (by rw[List.length_take,List.length_drop];omega)
 have n1:=k1.nx
 have kk:=k1.trans (k2.mono n1)
 rcases D with⟨d,rfl⟩ | ⟨k',p,w,d,rfl,Bw⟩
 .refine⟨_,(H2.new (.cells [.int .i64 (.ofNat 0),.snil] false false)).2,?_,.inl ⟨by unfold atF;rw[d],rfl⟩,kk.trans (z0d.mono kk.nx)⟩
  refine C.c66.re (by conv=>lhs;reduce) ?_
  simp(maxDischargeDepth:=9)only[auX,reduceCtorEq,Nat.reduceAdd,zA,z0o (i:=n) (k:=12) (by omega),z0c c1,z0c c2]
 .have sw:=Bw.by.sc
  have B3:By (H2.new (.cells [.int .i64 (.ofNat k'),w] false false)).2 w p:=Bw.by.keep z0d lr
  by_cases h1:k'=k
  .by_cases h2:p.length=n
   .refine⟨_,(H2.new (.cells [.int .i64 (.ofNat k'),w] false false)).2,?_,.inr ⟨p,w,by unfold atF;rw[d];simp only[h1,h2,and_self,if_true],rfl,B3⟩,kk.trans (z0d.mono kk.nx)⟩
    refine C.c66.re (by conv=>lhs;reduce) ?_
    simp(maxDischargeDepth:=9)only[auX,bq,Nat.reduceAdd,zA,aZ,z0o (i:=n) (k:=12) (by omega),z0c c1,z0c c2,sw,eq_true h1,eq_true h2]
   .refine⟨_,(H2.new (.cells [.int .i64 (.ofNat k'),w] false false)).2,?_,.inl ⟨by unfold atF;rw[d];simp only[h2,and_false,if_false],rfl⟩,kk.trans (z0d.mono kk.nx)⟩
    refine C.c66.re (by conv=>lhs;reduce) ?_
    simp(maxDischargeDepth:=9)only[auX,bq,Nat.reduceAdd,zA,aZ,z0o (i:=n) (k:=12) (by omega),z0c c1,z0c c2,sw,eq_true h1,eq_false h2]
  .refine⟨_,(H2.new (.cells [.int .i64 (.ofNat k'),w] false false)).2,?_,.inl ⟨by unfold atF;rw[d];simp only[h1,false_and,if_false],rfl⟩,kk.trans (z0d.mono kk.nx)⟩
   refine C.c66.re (by conv=>lhs;reduce) ?_
   simp(maxDischargeDepth:=9)only[auX,bq,Nat.reduceAdd,zA,aZ,z0o (i:=n) (k:=12) (by omega),z0c c1,z0c c2,sw,eq_false h1]
theorem q2v{H:AHeap}{F:Pos}{n crc:Nat}(hm:PHas H F mnm (z1z n crc))(hn:n<=2000)(hcr:crc<4294967296){v:Int}(hv:∀ a,v=.ofNat a->n<=a) :∃ H',z0f E 18 [.ptr F 0,.int .i64 v] H (.tup [.int .i64 (.ofNat 0),.int .i64 (.ofNat 42)]) H'/\Keep H.nx.toNat H H':=by
 obtain⟨vc,vs,vd,H1,c1,M,k1⟩:=j5l C hm hn hcr
 have sm:=M.1.sc
 refine⟨(H1.new (.cells (mfc n vc vs vd) false false)).2,?_,k1.trans (z0d.mono k1.nx)⟩
 refine C.c18.re (by conv=>lhs;reduce) ?_
 cases v with
 | negSucc a=>simp(maxDischargeDepth:=9)only[auX,Nat.reduceAdd,zA,z0c c1,sm,j3q]
 | ofNat a =>
  have:=hv a rfl
  simp(maxDischargeDepth:=9)only[auX,bq,Nat.reduceAdd,zA,z0c c1,sm,eq_false (Nat.not_lt_zero a),eq_true this]
theorem q2w{H:AHeap}{F:Pos}{n crc:Nat}(hm:PHas H F mnm (z1z n crc))(hn:n<=2000)(hcr:crc<4294967296){o:Option (List Nat)}(ho:match o with | none=>PNo H F cnm | some us=>PHas H F cnm us){v:Nat}(hv:v<n) :∃ H',z0f E 18 [.ptr F 0,.int .i64 (.ofNat v)] H (.tup [.int .i64 (.ofNat (cA n o v).1),.int .i64 (.ofNat (cA n o v).2)]) H'/\Keep H.nx.toNat H H':=by
 obtain⟨vc,vs,vd,H1,c1,M,k1⟩:=j5l C hm hn hcr
 have sm:=M.1.sc
 obtain⟨H2,hH2⟩ :∃ A,A=(H1.new (.cells (mfc n vc vs vd) false false)).2:=⟨_,rfl⟩
 have k2:Keep H1.nx.toNat H1 H2:=by rw[hH2];exact z0d
 have g2:PT.get H1.nx H2.t=some (.cells (mfc n vc vs vd) false false):=by rw[hH2];exact z0i
 have n2:H1.nx.toNat<H2.nx.toNat:=by rw[hH2];exact z0h
 have kk2:=k1.trans (k2.mono k1.nx)
 have nmP:=j9j C.toCk (H:=H2)
 cases o with
 | none =>
  obtain⟨H3,c3,k3⟩:=k3e C (PNo.keep ho kk2 lr) 0 1 12 (by omega)
  refine⟨H3,?_,kk2.trans (k3.mono kk2.nx)⟩
  refine C.c18.re (by conv=>lhs;reduce) ?_
  simp(maxDischargeDepth:=9)only[auX,bq,Nat.reduceAdd,zA,aZ,z0c c1,sm,eq_false (Nat.not_lt_zero v),eq_false (show ¬ n<=v by omega)]
  rw[<-hH2]
  simp(maxDischargeDepth:=9)only[auX,reduceCtorEq,z0c nmP,z0c c3,cA]
 | some us =>
  have hu:PHas H F cnm us:=ho
  have hb:=hu.b
  obtain⟨r3,H3,c3,D3,k3⟩:=k17 C (hu.keep kk2 lr) (a:=0) (k:=1) (n:=12) (by omega) (by omega)
  rw[List.drop_zero]at D3
  have kk3:=kk2.trans (k3.mono kk2.nx)
  rcases D3 with⟨d3,rfl⟩ | ⟨h,w3,d3,rfl,B3⟩
  .have e:cA n (some us) v=(0,90):=cA_n (y4z d3)
   rw[e]
   refine⟨H3,?_,kk3⟩
   refine C.c18.re (by conv=>lhs;reduce) ?_
   simp(maxDischargeDepth:=9)only[auX,bq,Nat.reduceAdd,zA,aZ,z0c c1,sm,eq_false (Nat.not_lt_zero v),eq_false (show ¬ n<=v by omega)]
   rw[<-hH2]
   simp(maxDischargeDepth:=9)only[auX,reduceCtorEq,z0c nmP,z0c c3]
  have hlen:=q0b d3
  have g3:=(k3.get _ n2).trans g2
  obtain⟨r4,H4,c4,D4,k4⟩:=k17 C (hu.keep kk3 lr) (a:=24+v/200*812) (k:=2) (n:=4*min 200 (n-v/200*200)) (by omega) (by omega)
  have n3:=k3.nx
  have kk4:=kk3.trans (k4.mono kk3.nx)
  have g4:=(k4.get _ (by omega)).trans g3
  have s3:=B3.sc
  have nm3:=j9j C.toCk (H:=H3)
  have ar:=And.intro (q21 (i:=v) (k:=200) (by omega) (by omega)) (And.intro (j0l (i:=v/200) (k:=200) (by omega)) (And.intro (z74 (i:=n) (k:=v/200*200) (by omega) (by omega)) (And.intro (y4g 200 (n-v/200*200)) (And.intro (j0l (i:=v/200) (k:=812) (by omega)) (And.intro (z0o (i:=24) (k:=v/200*812) (by omega)) (j0l (i:=4) (k:=min 200 (n-v/200*200)) (by omega)))))))
  rcases D4 with⟨d4,rfl⟩ | ⟨p,w4,d4,rfl,B4⟩
  .have e:cA n (some us) v=(0,90):=cA_n (y0c d3 d4)
   rw[e]
   refine⟨H4,?_,kk4⟩
   refine C.c18.re (by conv=>lhs;reduce) ?_
   simp(maxDischargeDepth:=9)only[auX,bq,Nat.reduceAdd,zA,aZ,z0c c1,sm,eq_false (Nat.not_lt_zero v),eq_false (show ¬ n<=v by omega)]
   rw[<-hH2]
   simp(maxDischargeDepth:=9)only[auX,reduceCtorEq,zA,aZ,z0c nmP,z0c c3,ar,hl_g g3,z0c nm3,z0c c4]
  have hlp:=q0b d4
  have s4:=B4.sc
  have B3':=B3.keep k4 lr
  have m0:=j1u C.toCk B3' (by omega) (k:=0) (by omega)
  have m1:=j1u C.toCk B3' (by omega) (k:=1) (by omega)
  have m2:=j1u C.toCk B3' (by omega) (k:=2) (by omega)
  have m3:=j1u C.toCk B4 (by omega) (k:=v%200) (by omega)
  have ce:=y4y d3 d4
  have F0:∀ (b:Bool) (x e:Nat),cA n (some us) v=(x,e)->(z0f E 18 [.ptr F 0,.int .i64 (.ofNat v)] H (.tup [.int .i64 (.ofNat x),.int .i64 (.ofNat e)]) H4)->∃ H',z0f E 18 [.ptr F 0,.int .i64 (.ofNat v)] H (.tup [.int .i64 (.ofNat (cA n (some us) v).1),.int .i64 (.ofNat (cA n (some us) v).2)]) H'/\Keep H.nx.toNat H H':=fun b x e h1 h2=>⟨H4,by rw[h1];exact h2,kk4⟩
  by_cases q0:be4 h 0=1
  .by_cases q1:be4 h 4=n
   .by_cases q2:be4 p (4*(v%200))<=be4 h 8
    .refine F0 true (be4 p (4*(v%200))) 0 (cA_s (by rw[ce,if_pos ⟨q0,q1,q2⟩])) ?_
     refine C.c18.re (by conv=>lhs;reduce) ?_
     simp(maxDischargeDepth:=9)only[auX,bq,Nat.reduceAdd,zA,aZ,z0c c1,sm,eq_false (Nat.not_lt_zero v),eq_false (show ¬ n<=v by omega)]
     rw[<-hH2]
     simp(maxDischargeDepth:=9)only[auX,bq,reduceCtorEq,zA,aZ,Nat.reduceAnd,z0c nmP,z0c c3,ar,hl_g g3,z0c nm3,z0c c4,j1l,z0c m3,hl_g g4,z0j m0,z0j m1,z0j m2,Nat.reduceMul,eq_true q0,eq_true q1,eq_false (show ¬ be4 h 8<be4 p (4*(v%200))by omega)]
    .refine F0 true 0 90 (cA_n (by rw[ce,if_neg (fun e=>q2 e.2.2)])) ?_
     refine C.c18.re (by conv=>lhs;reduce) ?_
     simp(maxDischargeDepth:=9)only[auX,bq,Nat.reduceAdd,zA,aZ,z0c c1,sm,eq_false (Nat.not_lt_zero v),eq_false (show ¬ n<=v by omega)]
     rw[<-hH2]
     simp(maxDischargeDepth:=9)only[auX,bq,reduceCtorEq,zA,aZ,Nat.reduceAnd,z0c nmP,z0c c3,ar,hl_g g3,z0c nm3,z0c c4,j1l,z0c m3,hl_g g4,z0j m0,z0j m1,z0j m2,Nat.reduceMul,eq_true q0,eq_true q1,eq_true (show be4 h 8<be4 p (4*(v%200))by omega)]
   .refine F0 true 0 90 (cA_n (by rw[ce,if_neg (fun e=>q1 e.2.1)])) ?_
    refine C.c18.re (by conv=>lhs;reduce) ?_
    simp(maxDischargeDepth:=9)only[auX,bq,Nat.reduceAdd,zA,aZ,z0c c1,sm,eq_false (Nat.not_lt_zero v),eq_false (show ¬ n<=v by omega)]
    rw[<-hH2]
    simp(maxDischargeDepth:=9)only[auX,bq,reduceCtorEq,zA,aZ,Nat.reduceAnd,z0c nmP,z0c c3,ar,hl_g g3,z0c nm3,z0c c4,j1l,z0c m3,hl_g g4,z0j m0,z0j m1,Nat.reduceMul,eq_true q0,eq_false q1]
  .refine F0 true 0 90 (cA_n (by rw[ce,if_neg (fun e=>q0 e.1)])) ?_
   refine C.c18.re (by conv=>lhs;reduce) ?_
   simp(maxDischargeDepth:=9)only[auX,bq,Nat.reduceAdd,zA,aZ,z0c c1,sm,eq_false (Nat.not_lt_zero v),eq_false (show ¬ n<=v by omega)]
   rw[<-hH2]
   simp(maxDischargeDepth:=9)only[auX,reduceCtorEq,zA,aZ,Nat.reduceAnd,z0c nmP,z0c c3,ar,hl_g g3,z0c nm3,z0c c4,j1l,z0c m3,hl_g g4,z0j m0,Nat.reduceMul,eq_false q0]
end
def RNo(H:AHeap)(F:Pos)(nm:List Nat) :Prop:=∃ (files:List (List Nat×Nat)) (dirs:List (List Ent)) (es:List Ent) (np ct:Nat) (S:Pos->Prop),RS H F files (dirs++[es]) np ct S/\es.length<=1000/\dirs.length<=900/\IsNm nm/\ratF nm es 0=.negSucc 0
theorem RNo.keep{m:Nat}{H H':AHeap}{F:Pos}{nm:List Nat}(h:RNo H F nm)(k:Keep m H H')(hm:H.nx.toNat<=m) :RNo H' F nm:=by
 obtain⟨a,b,c,d,e,f,g,i⟩:=h
 exact⟨a,b,c,d,e,f,g.keep k hm,i⟩
section
variable{E:Env}(C:CkS E)
include C
theorem q0r{H:AHeap}{F:Pos}{nm:List Nat}(h:RNo H F nm) :z0f E 115 [.ptr F 0,.str nm] H (.tup [.int .i64 (.ofNat 0),.int .i64 (.ofNat 82)]) H:=by
 obtain⟨files,dirs,es,np,ct,S,⟨vf,vd,vp,fl,ds,h,e1,e2,rfl⟩,b1,b2,hn,h0⟩:=h
 obtain⟨ds0,⟨d,es'⟩,rfl,e3,e4⟩:=z4j e2
 have e4:es'=es:=e4
 subst e4
 have l2:ds0.length=dirs.length:=by rw[<-e3,List.length_map]
 obtain⟨n1,n2,n3⟩:=h.now
 refine C.c115.re (by conv=>lhs;reduce) ?_
 simp(maxDischargeDepth:=9)only[auX,z0c (z4d C.toCk h.fs hn),z0c (z3y C.toCk h (by omega)),z0c (at_k C.toCk n2 (by omega) nm),h0,j3q]
theorem q0w{H:AHeap}{F:Pos}{nm:List Nat}(h:RNo H F nm)(a n:Int) :z0f E 116 [.ptr F 0,.str nm,.int .i64 a,.int .i64 n] H (.tup [.snil,.int .i64 (.ofNat 82)]) H:=by
 obtain⟨files,dirs,es,np,ct,S,⟨vf,vd,vp,fl,ds,h,e1,e2,rfl⟩,b1,b2,hn,h0⟩:=h
 obtain⟨ds0,⟨d,es'⟩,rfl,e3,e4⟩:=z4j e2
 have e4:es'=es:=e4
 subst e4
 have l2:ds0.length=dirs.length:=by rw[<-e3,List.length_map]
 obtain⟨n1,n2,n3⟩:=h.now
 refine C.c116.re (by conv=>lhs;reduce) ?_
 simp(maxDischargeDepth:=9)only[auX,z0c (z4d C.toCk h.fs hn),z0c (z3y C.toCk h (by omega)),z0c (at_k C.toCk n2 (by omega) nm),h0,j3q]
theorem q1h{H:AHeap}{F:Pos}{nm:List Nat}(h:RNo H F nm) :∃ H',z0f E 225 [.ptr F 0,.str nm] H (.tup [.pnil,.snil,.int .i64 (.ofNat 82)]) H'/\Keep H.nx.toNat H H':=by
 have k1:Keep H.nx.toNat H (H.new (.cells [.int .i64 (.ofNat 0),.snil] false false)).2:=z0d
 have c:=q0w C (h.keep k1 lr) (.ofNat 0) (.ofNat 1037)
 have c2:z0f E 289 [.ptr F 0,.str nm,.int .i64 (.ofNat 0)] H (.tup [.agg [.int .i64 (.ofNat 0),.snil],.int .i64 (.ofNat 0),.bool false,.int .i64 (.ofNat 82)]) (H.new (.cells [.int .i64 (.ofNat 0),.snil] false false)).2:=by
  refine C.c289.re (by conv=>lhs;reduce) ?_
  simp(maxDischargeDepth:=9)only[auX,reduceCtorEq,Nat.reduceAdd,zA,z0c c]
 refine⟨((H.new (.cells [.int .i64 (.ofNat 0),.snil] false false)).2.new (.cells [.int .i64 (.ofNat 0),.snil] false false)).2,?_,k1.trans (z0d.mono (Nat.le_of_lt z0h))⟩
 refine C.c225.re (by conv=>lhs;reduce) ?_
 simp(maxDischargeDepth:=9)only[auX,reduceCtorEq,Nat.reduceAdd,zA,z0c c2]
theorem q1s{H:AHeap}{F:Pos}{nm:List Nat}(h:RNo H F nm) :∃ H',z0f E 159 [.ptr F 0,.str nm] H (.tup [.snil,.snil,.int .i64 (.ofNat 82)]) H'/\Keep H.nx.toNat H H':=by
 obtain⟨H1,c1,k1⟩:=q1h C h
 refine⟨H1,?_,k1⟩
 refine C.c159.re (by conv=>lhs;reduce) ?_
 simp(maxDischargeDepth:=9)only[auX,reduceCtorEq,z0c c1]
theorem q1g{H:AHeap}{F:Pos}{nm:List Nat}(h:PNo H F nm) :∃ H',z0f E 121 [.ptr F 0,.str nm] H (.tup [.pnil,.snil,.int .i64 (.ofNat 82)]) H'/\Keep H.nx.toNat H H':=by
 obtain⟨A,hA⟩ :∃ A,A=(H.new (.cells (RdC F nm 0 0) false false)).2:=⟨_,rfl⟩
 have kA:Keep H.nx.toNat H A:=by rw[hA];exact z0d
 have gA:PT.get H.nx A.t=some (.cells (RdC F nm 0 0) false false):=by rw[hA];exact z0i
 have nA:H.nx.toNat<A.nx.toNat:=by rw[hA];exact z0h
 obtain⟨B,hB⟩ :∃ B,B=(A.new (.cells [.int .i64 (.ofNat 0),.snil] false false)).2:=⟨_,rfl⟩
 have kB:Keep A.nx.toNat A B:=by rw[hB];exact z0d
 have gB:=(kB.get _ nA).trans gA
 have gz:PT.get A.nx B.t=some (.cells [.int .i64 (.ofNat 0),.snil] false false):=by rw[hB];exact z0i
 have nB:A.nx.toNat<B.nx.toNat:=by rw[hB];exact z0h
 have kk:=kA.trans (kB.mono (by omega))
 obtain⟨m,l,b,pv,fl,nl,np,ct,s,h1,h2⟩:=h.keep kk lr
 obtain⟨D,c,kD⟩:=y1i C s h1 h2 (.ofNat 0) (.ofNat 1036)
 have gzD:=(kD.get _ nB).trans gz
 have st:=z0z gzD (o:=0) (vs:=[.int .i64 (.ofNat 0),.snil]) rfl rfl
 have cn:z0f E 174 [.ptr H.nx 0] A (.tup [.agg [.int .i64 (.ofNat 0),.snil],.int .i64 (.ofNat 82)]) (D.upd A.nx (.cells [.int .i64 (.ofNat 0),.snil] false false)):=by
  refine C.c174.re (by conv=>lhs;reduce) ?_
  simp(maxDischargeDepth:=9)only[auX,aZ]
  rw[<-hB]
  simp(maxDischargeDepth:=9)only[auX,reduceCtorEq,Nat.reduceAdd,zA,Nat.reduceAnd,hl_g gB,z0j c,st]
 have nD:=kD.nx
 refine⟨((D.upd A.nx (.cells [.int .i64 (.ofNat 0),.snil] false false)).new (.cells [.int .i64 (.ofNat 0),.snil] false false)).2,?_,((kk.trans (kD.mono (by omega))).trans (z0s (by omega))).trans (z0d.mono (by show _<=D.nx.toNat;omega))⟩
 refine C.c121.re (by conv=>lhs;reduce) ?_
 simp(maxDischargeDepth:=9)only[auX]
 rw[<-hA]
 simp(maxDischargeDepth:=9)only[auX,reduceCtorEq,Nat.reduceAdd,zA,z0c cn]
theorem q1q{H:AHeap}{F:Pos}{nm:List Nat}(h:PNo H F nm) :∃ H',z0f E 60 [.ptr F 0,.str nm] H (.tup [.snil,.snil,.int .i64 (.ofNat 82)]) H'/\Keep H.nx.toNat H H':=by
 obtain⟨A,hA⟩ :∃ A,A=(((H.new (.cells [.snil] false false)).2.new (.cells [.snil] false false)).2.new (.cells [.int .i64 (.ofNat 0)] false false)).2:=⟨_,rfl⟩
 have s1:H.nx.succ.toNat=H.nx.toNat+1:=Pos.toNat_succ _
 have s2:H.nx.succ.succ.toNat=H.nx.toNat+2:=by rw[Pos.toNat_succ,s1]
 have nA:A.nx.toNat=H.nx.toNat+3:=by rw[hA];show H.nx.succ.succ.succ.toNat=_;rw[Pos.toNat_succ,s2]
 have kA:Keep H.nx.toNat H A:=by
  rw[hA]
  exact(z0d.trans (z0d.mono (Nat.le_of_lt z0h))).trans (z0d.mono (by rw[Nat.le_iff_lt_or_eq];exact .inl (Nat.lt_trans z0h z0h)))
 have a4:PT.get H.nx A.t=some (.cells [.snil] false false):=by
  rw[hA,(z0d (H:=((H.new (.cells [.snil] false false)).2.new (.cells [.snil] false false)).2)).get _ (Nat.lt_trans z0h z0h),(z0d (H:=(H.new (.cells [.snil] false false)).2)).get _ z0h]
  exact z0i
 have a5:PT.get H.nx.succ A.t=some (.cells [.snil] false false):=by
  rw[hA]
  exact((z0d (H:=((H.new (.cells [.snil] false false)).2.new (.cells [.snil] false false)).2) (x:=(.cells [.int .i64 (.ofNat 0)] false false))).get (H.new (.cells [.snil] false false)).2.nx z0h).trans (z0i (H:=(H.new (.cells [.snil] false false)).2))
 have a6:PT.get H.nx.succ.succ A.t=some (.cells [.int .i64 (.ofNat 0)] false false):=by
  rw[hA]
  exact z0i (H:=((H.new (.cells [.snil] false false)).2.new (.cells [.snil] false false)).2)
 obtain⟨H1,c1,K1⟩:=q1g C (h.keep kA lr)
 have n1:=K1.nx
 have kk1:Keep H.nx.toNat H H1:=kA.trans (K1.mono (by omega))
 have b4':=(K1.get H.nx (by omega)).trans a4
 have b5:=(K1.get H.nx.succ (by omega)).trans a5
 have b6:=(K1.get H.nx.succ.succ (by omega)).trans a6
 have ne (a b:Pos) (h:a.toNat≠b.toNat) :a≠b:=fun e=>h (congrArg _ e)
 have t4:=z0z b4' (o:=0) (vs:=[.snil]) rfl rfl
 have b5':PT.get H.nx.succ (H1.upd H.nx (.cells [.snil] false false)).t=some (.cells [.snil] false false):=by rw[z0a (ne _ _ (by omega))];exact b5
 have t5:=z0z b5' (o:=0) (vs:=[.snil]) rfl rfl
 have b6':PT.get H.nx.succ.succ ((H1.upd H.nx (.cells [.snil] false false)).upd H.nx.succ (.cells [.snil] false false)).t=some (.cells [.int .i64 (.ofNat 0)] false false):=by rw[z0a (ne _ _ (by omega)),z0a (ne _ _ (by omega))];exact b6
 have t6:=z0z b6' (o:=0) (vs:=[.int .i64 (.ofNat 82)]) rfl rfl
 obtain⟨R,hR⟩ :∃ R,R=((H1.upd H.nx (.cells [.snil] false false)).upd H.nx.succ (.cells [.snil] false false)).upd H.nx.succ.succ (.cells [.int .i64 (.ofNat 82)] false false):=⟨_,rfl⟩
 have x6:PT.get H.nx.succ.succ R.t=some (.cells [.int .i64 (.ofNat 82)] false false):=by rw[hR];exact z0q
 have x5:PT.get H.nx.succ R.t=some (.cells [.snil] false false):=by rw[hR,z0a (ne _ _ (by omega))];exact z0q
 have x4:PT.get H.nx R.t=some (.cells [.snil] false false):=by rw[hR,z0a (ne _ _ (by omega)),z0a (ne _ _ (by omega))];exact z0q
 suffices hh:∃ r H',z0f E 60 [.ptr F 0,.str nm] H r H'/\(r=.tup [.snil,.snil,.int .i64 (.ofNat 82)]/\H'=R)from by
  obtain⟨_,_,hc,rfl,rfl⟩:=hh
  exact⟨_,hc,by rw[hR];exact((kk1.trans (z0s lr)).trans (z0s (by omega))).trans (z0s (by omega))⟩
 refine C.c60.rm (by conv=>lhs;reduce) ?_
 subst hA
 subst hR
 simp(maxDischargeDepth:=9)only[auX,reduceCtorEq,z0c c1,t4,t5,t6,j9c,hl_g x4,hl_g x5,hl_g x6]
end
theorem q58{H:AHeap}{v:AVal}{us:List Nat}(h:By H v us){a:Nat}(ha:a<=us.length) :∃ w,By H w (us.drop a)/\∀ {t:PT AVal} {x:AOpnd},x.ev t=.int .i64 (.ofNat a)->z0w t (.sl 1) v (some x) none none=some w:=by
 rcases Nat.eq_zero_or_pos us.length with h0 | h0
 .obtain rfl:us=[]:=by simpa using h0
  obtain rfl:a=0:=by simpa using ha
  obtain⟨⟨_,hr⟩,_⟩:=h
  rcases hr with⟨rfl,_⟩ | ⟨p,o,c,z,rfl,hg,hz,hc,hlt⟩
  .exact⟨.snil,⟨⟨rfl,.inl ⟨rfl,rfl⟩⟩,fun u hu=>by cases hu⟩,fun {t x} hx=>by simp only[z0w,bo_n,bo_s hx (Nat.le_refl 0)]⟩
  .rcases hz with rfl | rfl
   .refine⟨.sl p o 0 c 0,⟨⟨rfl,.inr ⟨p,o,c,0,rfl,hg,.inl rfl,hc,hlt⟩⟩,fun u hu=>by cases hu⟩,fun {t x} hx=>?_⟩
    simp only[z0w,bo_n,bo_s hx (Nat.zero_le _)]
    cases Nat.beq c 0<;>rfl
   .refine⟨.sl p o 0 c 1,⟨⟨rfl,.inr ⟨p,o,c,1,rfl,hg,.inr rfl,hc,hlt⟩⟩,fun u hu=>by cases hu⟩,fun {t x} hx=>?_⟩
    simp only[z0w,bo_n,bo_s hx (Nat.zero_le _)]
    rfl
 .obtain⟨w,hw,_,_,_,s⟩:=h.sub (a:=a) (b:=us.length) ha lr h0
  rw[List.take_of_length_le (by rw[List.length_drop];omega)]at hw
  exact⟨w,hw,s rfl⟩
theorem q73{us:List Nat}{n v:Nat}(h:∀ p,fdec us≠some (1,p)) :z7j us n v=none:=by
 unfold z7j
 split
 .rename_i k p hf
  rw[if_neg (fun c=>h p (by rw[hf,c.1]))]
 .rfl
theorem y0b{us h:List Nat}{n v:Nat}(hf:fdec us=some (1,h))(c:¬ (h.length=12/\be4 h 0=1/\be4 h 4=n)) :z7j us n v=none:=by
 unfold z7j
 rw[hf]
 simp only
 rw[if_neg (fun e=>c e.2)]
theorem q72{us h:List Nat}{n v:Nat}(hf:fdec us=some (1,h))(c:h.length=12/\be4 h 0=1/\be4 h 4=n)(h2:∀ p,fdec (us.drop (24+v/200*812))≠some (2,p)) :z7j us n v=none:=by
 unfold z7j
 rw[hf]
 simp only
 rw[if_pos (by simpa using c)]
 split
 .rename_i k p hf2
  rw[if_neg (fun e=>h2 p (by rw[hf2,e.1]))]
 .rfl
theorem q71{us h p:List Nat}{n v:Nat}(hf:fdec us=some (1,h))(c:h.length=12/\be4 h 0=1/\be4 h 4=n)(h2:fdec (us.drop (24+v/200*812))=some (2,p)) :z7j us n v=if p.length=4*min 200 (n-v/200*200)then(if be4 p (4*(v-v/200*200))<=be4 h 8 then some (be4 p (4*(v-v/200*200)))else none)else none:=by
 unfold z7j
 rw[hf]
 simp only
 rw[if_pos (by simpa using c),h2]
 simp only[true_and]
section
variable{E:Env}(C:CkS E)
include C
theorem j8o{H:AHeap}{v:AVal}{us:List Nat}(h:By H v us)(hl:us.length<=1000000)(a kind:Nat) :∃ r H',z0f E 157 [v,.int .i64 (.ofNat a),.int .i64 (.ofNat kind)] H r H'/\(((∀ p,fdec (us.drop a)≠some (kind,p))/\∃ w,(z1g w=true/\same w w=true)/\r=.tup [w,.bool false])\/∃ p w,fdec (us.drop a)=some (kind,p)/\r=.tup [w,.bool true]/\By H' w p)/\Keep H.nx.toNat H H':=by
 have sv:=h.sc
 by_cases ha:a<=us.length
 .obtain⟨w1,b1,s1⟩:=q58 h ha
  have c1:=b1.sc
  obtain⟨r,H2,c2,D,k2⟩:=q5h C.toCk b1 (by rw[List.length_drop];omega)
  rcases D with⟨d,rfl⟩ | ⟨k,p,w,d,rfl,Bw⟩
  .refine⟨_,(H2.new (.cells [.int .i64 (.ofNat 0),.snil] false false)).2,?_,.inl ⟨fun p e=>by(rw[d]at e;cases e),.snil,⟨rfl,rfl⟩,rfl⟩,k2.trans (z0d.mono k2.nx)⟩
   refine C.c157.re (by conv=>lhs;reduce) ?_
   simp(maxDischargeDepth:=9)only[auX,reduceCtorEq,Nat.reduceAdd,zA,sv,eq_false (show ¬ us.length<a by omega),s1,z0c c2]
  .have sw:=Bw.by.sc
   have B3:By (H2.new (.cells [.int .i64 (.ofNat k),w] false false)).2 w p:=Bw.by.keep z0d lr
   by_cases hk:k=kind
   .refine⟨_,(H2.new (.cells [.int .i64 (.ofNat k),w] false false)).2,?_,.inr ⟨p,w,by rw[d,hk],rfl,B3⟩,k2.trans (z0d.mono k2.nx)⟩
    refine C.c157.re (by conv=>lhs;reduce) ?_
    simp(maxDischargeDepth:=9)only[auX,bq,Nat.reduceAdd,zA,aZ,sv,eq_false (show ¬ us.length<a by omega),s1,z0c c2,sw,eq_true hk]
   .refine⟨_,(H2.new (.cells [.int .i64 (.ofNat k),w] false false)).2,?_,.inl ⟨fun q e=>by(rw[d]at e;cases e;exact hk rfl),w,sw.2,rfl⟩,k2.trans (z0d.mono k2.nx)⟩
    refine C.c157.re (by conv=>lhs;reduce) ?_
    simp(maxDischargeDepth:=9)only[auX,bq,Nat.reduceAdd,zA,aZ,sv,eq_false (show ¬ us.length<a by omega),s1,z0c c2,sw,eq_false hk]
 .refine⟨_,H,?_,.inl ⟨fun p e=>?_,.snil,⟨rfl,rfl⟩,rfl⟩,Keep.refl _ _⟩
  .refine C.c157.re (by conv=>lhs;reduce) ?_
   simp(maxDischargeDepth:=9)only[auX,sv,eq_true (show us.length<a by omega)]
  .rw[List.drop_eq_nil_of_le (by omega)]at e
   obtain⟨_,_,_,h4,_⟩:=z1y e
   simp at h4
theorem y9y{H:AHeap}{F:Pos}{n crc:Nat}(hm:RHas H F mnm (z1z n crc))(hn:n<=2000)(hcr:crc<4294967296){v:Int}(hv:∀ a,v=.ofNat a->n<=a) :∃ H',z0f E 101 [.ptr F 0,.int .i64 v] H (.tup [.int .i64 (.ofNat 0),.int .i64 (.ofNat 42)]) H'/\Keep H.nx.toNat H H':=by
 obtain⟨vc,vs,vd,H1,c1,M,k1⟩:=j5k C.toCk hm hn hcr
 have sm:=M.1.sc
 refine⟨(H1.new (.cells (mfc n vc vs vd) false false)).2,?_,k1.trans (z0d.mono k1.nx)⟩
 refine C.c101.re (by conv=>lhs;reduce) ?_
 cases v with
 | negSucc a=>simp(maxDischargeDepth:=9)only[auX,Nat.reduceAdd,zA,z0c c1,sm,j3q]
 | ofNat a =>
  have:=hv a rfl
  simp(maxDischargeDepth:=9)only[auX,bq,Nat.reduceAdd,zA,z0c c1,sm,eq_false (Nat.not_lt_zero a),eq_true this]
theorem y91{H:AHeap}{F:Pos}{n crc:Nat}(hm:RHas H F mnm (z1z n crc))(hn:n<=2000)(hcr:crc<4294967296){o:Option (List Nat)}(ho:match o with | none=>RNo H F cnm | some us=>RHas H F cnm us){v:Nat}(hv:v<n) :∃ H',z0f E 101 [.ptr F 0,.int .i64 (.ofNat v)] H (.tup [.int .i64 (.ofNat (cA n o v).1),.int .i64 (.ofNat (cA n o v).2)]) H'/\Keep H.nx.toNat H H':=by
 obtain⟨vc,vs,vd,H1,c1,M,k1⟩:=j5k C.toCk hm hn hcr
 have sm:=M.1.sc
 obtain⟨H2,hH2⟩ :∃ A,A=(H1.new (.cells (mfc n vc vs vd) false false)).2:=⟨_,rfl⟩
 have k2:Keep H1.nx.toNat H1 H2:=by rw[hH2];exact z0d
 have g2:PT.get H1.nx H2.t=some (.cells (mfc n vc vs vd) false false):=by rw[hH2];exact z0i
 have n2:H1.nx.toNat<H2.nx.toNat:=by rw[hH2];exact z0h
 have kk2:=k1.trans (k2.mono k1.nx)
 have nmR:=j9i C.toCk (H:=H2)
 cases o with
 | none =>
  have cz:=q0r C (RNo.keep ho kk2 lr)
  refine⟨H2,?_,kk2⟩
  refine C.c101.re (by conv=>lhs;reduce) ?_
  simp(maxDischargeDepth:=9)only[auX,bq,Nat.reduceAdd,zA,aZ,z0c c1,sm,eq_false (Nat.not_lt_zero v),eq_false (show ¬ n<=v by omega)]
  rw[<-hH2]
  simp(maxDischargeDepth:=9)only[auX,reduceCtorEq,z0c nmR,z0c cz,cA]
 | some us =>
  have hu:RHas H F cnm us:=ho
  have hb:=hu.b
  have cz:=y07 C.toCk (hu.keep kk2 lr)
  obtain⟨w3,H3,cr,B3,k3⟩:=y1h C.toCk (hu.keep kk2 lr) 0 us.length (by omega) (by omega)
  rw[List.drop_zero,List.take_length]at B3
  have s3:=B3.sc
  have kk3:=kk2.trans (k3.mono kk2.nx)
  have g3:=(k3.get _ n2).trans g2
  have n3:=k3.nx
  obtain⟨r4,H4,c4,D4,k4⟩:=j8o C B3 hb.1 0 1
  rw[List.drop_zero]at D4
  have kk4:=kk3.trans (k4.mono kk3.nx)
  have g4:=(k4.get _ (by omega)).trans g3
  have n4:=k4.nx
  have F0:∀ (H4:AHeap) (x e:Nat),Keep H.nx.toNat H H4->cA n (some us) v=(x,e)->(z0f E 101 [.ptr F 0,.int .i64 (.ofNat v)] H (.tup [.int .i64 (.ofNat x),.int .i64 (.ofNat e)]) H4)->∃ H',z0f E 101 [.ptr F 0,.int .i64 (.ofNat v)] H (.tup [.int .i64 (.ofNat (cA n (some us) v).1),.int .i64 (.ofNat (cA n (some us) v).2)]) H'/\Keep H.nx.toNat H H':=fun H4 x e k h1 h2=>⟨H4,by rw[h1];exact h2,k⟩
  rcases D4 with⟨d4,w4,s4,rfl⟩ | ⟨h,w4,d4,rfl,B4⟩
  .refine F0 H4 0 90 kk4 (cA_n (q73 d4)) ?_
   refine C.c101.re (by conv=>lhs;reduce) ?_
   simp(maxDischargeDepth:=9)only[auX,bq,Nat.reduceAdd,zA,aZ,z0c c1,sm,eq_false (Nat.not_lt_zero v),eq_false (show ¬ n<=v by omega)]
   rw[<-hH2]
   simp(maxDischargeDepth:=9)only[auX,reduceCtorEq,aZ,hl_g g2,z0c nmR,z0c cz,z0c cr,z0c c4]
  have s4:=B4.sc
  by_cases q:h.length=12
  rotate_left
  .refine F0 H4 0 90 kk4 (cA_n (y0b d4 (fun e=>q e.1))) ?_
   refine C.c101.re (by conv=>lhs;reduce) ?_
   simp(maxDischargeDepth:=9)only[auX,bq,Nat.reduceAdd,zA,aZ,z0c c1,sm,eq_false (Nat.not_lt_zero v),eq_false (show ¬ n<=v by omega)]
   rw[<-hH2]
   simp(maxDischargeDepth:=9)only[auX,bq,reduceCtorEq,aZ,hl_g g2,z0c nmR,z0c cz,z0c cr,z0c c4,s4,eq_false q]
  rw[q]at s4
  have m0:=z8h C.toCk B4 (by omega) (k:=0) (by omega)
  have m1:=z8h C.toCk B4 (by omega) (k:=4) (by omega)
  by_cases q0:be4 h 0=1
  rotate_left
  .refine F0 H4 0 90 kk4 (cA_n (y0b d4 (fun e=>q0 e.2.1))) ?_
   refine C.c101.re (by conv=>lhs;reduce) ?_
   simp(maxDischargeDepth:=9)only[auX,bq,Nat.reduceAdd,zA,aZ,z0c c1,sm,eq_false (Nat.not_lt_zero v),eq_false (show ¬ n<=v by omega)]
   rw[<-hH2]
   simp(maxDischargeDepth:=9)only[auX,bq,reduceCtorEq,aZ,Nat.reduceAnd,hl_g g2,z0c nmR,z0c cz,z0c cr,z0c c4,s4,hl_g g4,z0j m0,eq_false q0]
  by_cases q1:be4 h 4=n
  rotate_left
  .refine F0 H4 0 90 kk4 (cA_n (y0b d4 (fun e=>q1 e.2.2))) ?_
   refine C.c101.re (by conv=>lhs;reduce) ?_
   simp(maxDischargeDepth:=9)only[auX,bq,Nat.reduceAdd,zA,aZ,z0c c1,sm,eq_false (Nat.not_lt_zero v),eq_false (show ¬ n<=v by omega)]
   rw[<-hH2]
   simp(maxDischargeDepth:=9)only[auX,bq,reduceCtorEq,zA,aZ,Nat.reduceAnd,hl_g g2,z0c nmR,z0c cz,z0c cr,z0c c4,s4,hl_g g4,z0j m0,z0j m1,eq_true q0,eq_false q1]
  have B3':=B3.keep k4 lr
  have ar:=And.intro (q21 (i:=v) (k:=200) (by omega) (by omega)) (And.intro (j0l (i:=v/200) (k:=200) (by omega)) (And.intro (z74 (i:=n) (k:=v/200*200) (by omega) (by omega)) (And.intro (y4g 200 (n-v/200*200)) (And.intro (j0l (i:=v/200) (k:=812) (by omega)) (And.intro (z0o (i:=24) (k:=v/200*812) (by omega)) (And.intro (j0l (i:=4) (k:=min 200 (n-v/200*200)) (by omega)) (And.intro (z74 (i:=v) (k:=v/200*200) (by omega) (by omega)) (j0l (i:=4) (k:=v-v/200*200) (by omega)))))))))
  obtain⟨r5,H5,c5,D5,k5⟩:=j8o C B3' hb.1 (24+v/200*812) 2
  have kk5:=kk4.trans (k5.mono kk4.nx)
  have g5:=(k5.get _ (by omega)).trans g4
  have n5:=k5.nx
  rcases D5 with⟨d5,w5,s5,rfl⟩ | ⟨p,w5,d5,rfl,B5⟩
  .refine F0 H5 0 90 kk5 (cA_n (q72 d4 ⟨q,q0,q1⟩ d5)) ?_
   refine C.c101.re (by conv=>lhs;reduce) ?_
   simp(maxDischargeDepth:=9)only[auX,bq,Nat.reduceAdd,zA,aZ,z0c c1,sm,eq_false (Nat.not_lt_zero v),eq_false (show ¬ n<=v by omega)]
   rw[<-hH2]
   simp(maxDischargeDepth:=9)only[auX,bq,reduceCtorEq,zA,aZ,Nat.reduceAnd,hl_g g2,z0c nmR,z0c cz,z0c cr,z0c c4,s4,hl_g g4,z0j m0,z0j m1,eq_true q0,eq_true q1,ar,z0c c5]
  have s5:=B5.sc
  have ce:=q71 d4 ⟨q,q0,q1⟩ d5
  by_cases q2:p.length=4*min 200 (n-v/200*200)
  rotate_left
  .refine F0 H5 0 90 kk5 (cA_n (by rw[ce,if_neg q2])) ?_
   refine C.c101.re (by conv=>lhs;reduce) ?_
   simp(maxDischargeDepth:=9)only[auX,bq,Nat.reduceAdd,zA,aZ,z0c c1,sm,eq_false (Nat.not_lt_zero v),eq_false (show ¬ n<=v by omega)]
   rw[<-hH2]
   simp(maxDischargeDepth:=9)only[auX,bq,reduceCtorEq,zA,aZ,Nat.reduceAnd,hl_g g2,z0c nmR,z0c cz,z0c cr,z0c c4,s4,hl_g g4,z0j m0,z0j m1,eq_true q0,eq_true q1,ar,z0c c5,s5,eq_false q2]
  have m2:=z8h C.toCk (B4.keep k5 lr) (by omega) (k:=8) (by omega)
  have m3:=z8h C.toCk B5 (by omega) (k:=4*(v-v/200*200)) (by omega)
  rw[if_pos q2]at ce
  by_cases q3:be4 p (4*(v-v/200*200))<=be4 h 8
  .refine F0 H5 (be4 p (4*(v-v/200*200))) 0 kk5 (cA_s (by rw[ce,if_pos q3])) ?_
   refine C.c101.re (by conv=>lhs;reduce) ?_
   simp(maxDischargeDepth:=9)only[auX,bq,Nat.reduceAdd,zA,aZ,z0c c1,sm,eq_false (Nat.not_lt_zero v),eq_false (show ¬ n<=v by omega)]
   rw[<-hH2]
   simp(maxDischargeDepth:=9)only[auX,bq,reduceCtorEq,zA,aZ,Nat.reduceAnd,hl_g g2,z0c nmR,z0c cz,z0c cr,z0c c4,s4,hl_g g4,z0j m0,z0j m1,eq_true q0,eq_true q1,ar,z0c c5,s5,eq_true q2,z0c m3,z0c m2,eq_false (show ¬ be4 h 8<be4 p (4*(v-v/200*200))by omega)]
  .refine F0 H5 0 90 kk5 (cA_n (by rw[ce,if_neg q3])) ?_
   refine C.c101.re (by conv=>lhs;reduce) ?_
   simp(maxDischargeDepth:=9)only[auX,bq,Nat.reduceAdd,zA,aZ,z0c c1,sm,eq_false (Nat.not_lt_zero v),eq_false (show ¬ n<=v by omega)]
   rw[<-hH2]
   simp(maxDischargeDepth:=9)only[auX,bq,reduceCtorEq,zA,aZ,Nat.reduceAnd,hl_g g2,z0c nmR,z0c cz,z0c cr,z0c c4,s4,hl_g g4,z0j m0,z0j m1,eq_true q0,eq_true q1,ar,z0c c5,s5,eq_true q2,z0c m3,z0c m2,eq_true (show be4 h 8<be4 p (4*(v-v/200*200))by omega)]
end
theorem lf4:∀ l:List Nat,(l.flatMap b4).length=4*l.length
 | []=>rfl
 | a::l=>by simp only[List.flatMap_cons,List.length_append,lf4 l,z0k,List.length_cons];omega
theorem src4{H:AHeap}(m:Nat) :z1e (H.new (.cells (z0b (b4 m)) false false)).2 1 (.sl H.nx 0 4 4 0)=some (4,z0b (b4 m)):=by
 unfold z1e
 simp only[z2x (z0i (H:=H) (x:=.cells (z0b (b4 m)) false false))]
 rfl
theorem q3p{xs:List Nat}{i:Nat}(hi:i<xs.length) :(xs.take i).flatMap b4++b4 xs[i]=(xs.take (i+1)).flatMap b4:=by
 rw[List.take_succ_eq_append_getElem hi,List.flatMap_append]
 simp
theorem q6g(xs:List Nat)(j:Nat) :((xs.drop (200*j)).take (min 200 (xs.length-200*j))).flatMap b4=j83 xs j:=by
 unfold j83
 congr 1
 by_cases h:200<=xs.length-200*j
 .rw[Nat.min_eq_left h]
 .rw[Nat.min_eq_right (by omega),List.take_of_length_le (by rw[List.length_drop];omega),List.take_of_length_le (by rw[List.length_drop];omega)]
theorem q7j(xs:List Nat)(a b:Nat) :((ics xs).drop a).take b=ics ((xs.drop a).take b):=by
 unfold ics
 rw[<-List.map_drop,<-List.map_take]
theorem k1c{xs:List Nat}{b:Nat}(h:∀ x∈xs,x<=b) :gmx xs<=b:=by
 have:∀ (l:List Nat) (a:Nat),a<=b->(∀ x∈l,x<=b)->l.foldl max a<=b:=fun l=>by
  induction l with
  | nil=>intro a ha _;exact ha
  | cons x l ih=>intro a ha hx;exact ih _ (Nat.max_le.2 ⟨ha,hx x (by simp)⟩) (fun y hy=>hx y (by simp[hy]))
 exact this xs 0 (Nat.zero_le _) h
section
variable{E:Env}(C:Ck E)
include C
theorem q7n{H:AHeap}{b:Pos}{v:AVal}{xs:List Nat}{rest:List AVal}(h:Rd 1 H v xs.length (ics xs))(hb:¬ blk v b)(g:PT.get b H.t=some (.cells rest false false))(hbn:b.toNat<H.nx.toNat)(hr:rest.length=4*xs.length)(hx:∀ x∈xs,x<4294967296)(hl:xs.length<=1000) :∃ H',z0f E 178 [.sl b 0 0 (4*xs.length) 0,v] H (.sl b 0 (4*xs.length) (4*xs.length) 0) H'/\PT.get b H'.t=some (.cells (z0b (xs.flatMap b4)) false false)/\ButN H.nx.toNat b H H':=by
 have lv:∀ H2,fLen H2 1 v=some (.int .i64 (.ofNat xs.length)):=fun _=>h.len
 have sv:=And.intro h.scal h.same
 suffices hh:∃ r H',z0f E 178 [.sl b 0 0 (4*xs.length) 0,v] H r H'/\(r=.sl b 0 (4*xs.length) (4*xs.length) 0/\PT.get b H'.t=some (.cells (z0b (xs.flatMap b4)) false false)/\ButN H.nx.toNat b H H')from by
  obtain⟨_,H',hc,rfl,a⟩:=hh
  exact⟨H',hc,a⟩
 refine C.c178.rr (by conv=>lhs;reduce) ?_
 simp(maxDischargeDepth:=9)only[auX,lv]
 refine W.loopI (fun k t H'=>∃ i rest,i+k=xs.length/\rest.length=4*xs.length-4*i/\PT.get b H'.t=some (.cells (z0b ((xs.take i).flatMap b4)++rest) false false)/\ButN H.nx.toNat b H H'/\PT.get .h t=some (.sl b 0 (4*i) (4*xs.length) 0)/\PT.get (.o (.o (.o .h))) t=some (v)/\PT.get (.i (.o (.o .h))) t=some (.int .i64 (.ofNat xs.length))/\PT.get (.o (.i (.o .h))) t=some (.int .i64 (.ofNat i))) ?_ xs.length _ _ ⟨0,rest,by omega,by omega,g,⟨lr,fun _ _ _=>rfl⟩,rfl,rfl,rfl,rfl⟩
 rintro k t H' ⟨i,rest,hi,hr,g,K,t0,t7,t8,t9⟩
 have nK:=K.nx
 by_cases hk:k=0
 .obtain rfl:i=xs.length:=by omega
  obtain rfl:rest=[]:=by
   have:rest.length=0:=by omega
   simpa using this
  rw[List.take_length,List.append_nil]at g
  simp(maxDischargeDepth:=9)only[auX,↓reduceIte,t0,t8,t9,eq_false (Nat.lt_irrefl xs.length)]
  exact⟨g,K⟩
 .have hi2:i<xs.length:=by omega
  have hR:=h.other (fun p hp=>K.get p (h.blk_lt p hp) (fun e=>hb (by rw[<-e];exact hp))) nK
  obtain⟨p,o,i1,i2⟩:=Rd.at1 hR (z8n hi2)
  have hxi:=hx _ (List.getElem_mem hi2)
  have g':PT.get b (H'.new (.cells (z0b (b4 xs[i])) false false)).2.t=some (.cells (z0b ((xs.take i).flatMap b4)++rest) false false):=(z0d.get b (by omega)).trans g
  have ap:=q5p (by':=1) (c:=4*xs.length) g' (src4 xs[i]) (n:=4*i) (by rw[z1d,lf4,List.length_take];omega) rfl (by omega) (by omega) rfl
  have e:z0b ((xs.take i).flatMap b4)++z0b (b4 xs[i])=z0b ((xs.take (i+1)).flatMap b4):=by
   rw[<-z33,q3p hi2]
  rw[e,q76 hxi]at ap
  simp(maxDischargeDepth:=9)only[auX,t0,t7,t8,t9,hi2,i1,i2,shs,Nat.mod_eq_of_lt (show xs[i]/16777216<256 by omega),z0r ap,z0o (i:=i) (k:=1) (by omega)]
  refine⟨k-1,by omega,i+1,rest.drop 4,by omega,by rw[List.length_drop];omega,rfl,⟨Nat.le_trans nK (Nat.le_of_lt z0h),fun p hp hpb=>?_⟩,by rw[Nat.mul_add],rfl⟩
  rw[z0a (Ne.symm hpb),z0d.get _ (Nat.lt_of_lt_of_le hp nK),K.get p hp hpb]
theorem q7o{H:AHeap}{v:AVal}{xs:List Nat}(h:Rd 1 H v xs.length (ics xs))(hx:∀ x∈xs,x<4294967296)(hl:xs.length<=1000) :∃ w H',z0f E 178 [.snil,v] H w H'/\Bo H.nx.toNat H' w (xs.flatMap b4)/\Keep H.nx.toNat H H':=by
 have lv:∀ H2,fLen H2 1 v=some (.int .i64 (.ofNat xs.length)):=fun _=>h.len
 have sv:=And.intro h.scal h.same
 refine C.c178.rr (by conv=>lhs;reduce) ?_
 simp(maxDischargeDepth:=9)only[auX,lv]
 refine W.loopI (fun k t H'=>∃ i w,i+k=xs.length/\Bo H.nx.toNat H' w ((xs.take i).flatMap b4)/\Keep H.nx.toNat H H'/\PT.get .h t=some (w)/\PT.get (.o (.o (.o .h))) t=some (v)/\PT.get (.i (.o (.o .h))) t=some (.int .i64 (.ofNat xs.length))/\PT.get (.o (.i (.o .h))) t=some (.int .i64 (.ofNat i))) ?_ xs.length _ _ ⟨0,.snil,by omega,z80,Keep.refl _ _,rfl,rfl,rfl,rfl⟩
 rintro k t H' ⟨i,w,hi,B,K,t0,t7,t8,t9⟩
 by_cases hk:k=0
 .obtain rfl:i=xs.length:=by omega
  rw[List.take_length]at B
  simp(maxDischargeDepth:=9)only[auX,↓reduceIte,t0,t8,t9,eq_false (Nat.lt_irrefl xs.length)]
  exact⟨B,K⟩
 .have hi2:i<xs.length:=by omega
  obtain⟨p,o,i1,i2⟩:=Rd.at1 (h.keep K lr) (z8n hi2)
  have hxi:=hx _ (List.getElem_mem hi2)
  have k1:Keep H'.nx.toNat H' (H'.new (.cells (z0b (b4 xs[i])) false false)).2:=z0d
  obtain⟨w2,H2,a2,B2,K2⟩:=z7p (B.keep k1 lr) (Nat.le_trans K.nx k1.nx) (z5g (H:=H') (b4 xs[i]) (j2p _)).by (by rw[lf4,z0k,List.length_take];omega)
  rw[q3p hi2]at B2
  rw[z0k,q76 hxi]at a2
  simp(maxDischargeDepth:=9)only[auX,t0,t7,t8,t9,hi2,i1,i2,shs,Nat.mod_eq_of_lt (show xs[i]/16777216<256 by omega),z0r a2,z0o (i:=i) (k:=1) (by omega)]
  exact⟨k-1,by omega,i+1,w2,by omega,B2,K.trans ((k1.mono K.nx).trans K2),rfl,rfl⟩
theorem q2c{H:AHeap}{v:AVal}{xs:List Nat}(h:Rd 1 H v xs.length (ics xs))(hl:xs.length<=1000000) :z0f E 179 [v] H (.int .i64 (.ofNat (gmx xs))) H:=by
 have lv:∀ H2,fLen H2 1 v=some (.int .i64 (.ofNat xs.length)):=fun _=>h.len
 have sv:=And.intro h.scal h.same
 by_cases h0:xs.length=0
 .obtain rfl:xs=[]:=by simpa using h0
  refine C.c179.re (by conv=>lhs;reduce) ?_
  simp(maxDischargeDepth:=9)only[auX,lv,List.length_nil]
  rfl
 .have c:z0f E 235 [v] H (.int .i64 (.ofNat (gmx xs))) H:=by
   suffices hh:∃ r H',z0f E 235 [v] H r H'/\(r=.int .i64 (.ofNat (gmx xs))/\H'=H)from by
    obtain⟨_,_,hc,rfl,rfl⟩:=hh
    exact hc
   obtain⟨p,o,i1,i2⟩:=Rd.at1 h (z8n (show 0<xs.length by omega))
   refine C.c235.rr (by conv=>lhs;reduce) ?_
   simp(maxDischargeDepth:=9)only[auX,lv,eq_false (show ¬ xs.length<1 by omega),i1,i2]
   refine W.loopI (fun k t H2=>H2=H/\∃ i,i+k=xs.length/\PT.get .h t=some (v)/\PT.get (.o (.o .h)) t=some (.int .i64 (.ofNat (gmx (xs.take i))))/\PT.get (.i (.o .h)) t=some (.int .i64 (.ofNat i))) ?_ (xs.length-1) _ _ ⟨rfl,1,by omega,rfl,?_,rfl⟩
   rotate_left
   .rw[<-q2d (show 0<xs.length by omega)]
    simp only[List.take_zero]
    rw[show gmx []=0 from rfl,Nat.zero_max]
    rfl
   rintro k t H2 ⟨rfl,i,hi,t0,t3,t4⟩
   by_cases hk:k=0
   .obtain rfl:i=xs.length:=by omega
    rw[List.take_length]at t3
    simp(maxDischargeDepth:=9)only[auX,↓reduceIte,t0,t3,t4,lv,eq_false (Nat.lt_irrefl xs.length)]
   .have hi2:i<xs.length:=by omega
    obtain⟨p,o,i1,i2⟩:=Rd.at1 h (z8n hi2)
    simp(maxDischargeDepth:=9)only[auX,t0,t3,t4,lv,hi2,i1,i2,k0r,q2d hi2,z0o (i:=i) (k:=1) (by omega)]
    exact⟨k-1,by omega,i+1,by omega,rfl,rfl⟩
  refine C.c179.re (by conv=>lhs;reduce) ?_
  simp(maxDischargeDepth:=9)only[auX,lv,eq_false h0,z0c c]
theorem y9m{H:AHeap}{v:AVal}{xs:List Nat}(h:Rd 1 H v xs.length (ics xs))(hl:xs.length<=1000000)(hg:¬ ∀ x∈xs,x<xs.length) :z0f E 123 [.int .i64 (.ofNat 1),v] H (.tup [.snil,.snil,.int .i64 (.ofNat 191)]) H:=by
 have lv:∀ H2,fLen H2 1 v=some (.int .i64 (.ofNat xs.length)):=fun _=>h.len
 have sv:=And.intro h.scal h.same
 suffices hh:∃ r H',z0f E 123 [.int .i64 (.ofNat 1),v] H r H'/\(r=.tup [.snil,.snil,.int .i64 (.ofNat 191)]/\H'=H)from by
  obtain⟨_,_,hc,rfl,rfl⟩:=hh
  exact hc
 refine C.c123.rm (by conv=>lhs;reduce) ?_
 simp(maxDischargeDepth:=9)only[auX,bq,Nat.reduceLT,lv,eq_false (show ¬ 16777216<xs.length by omega)]
 refine W.loopI (fun k t H'=>H'=H/\∃ i,i+k=xs.length/\(∀ j (hj:j<xs.length),j<i->xs[j]<xs.length)/\PT.get (.o (.o (.o .h))) t=some (.int .i64 (.ofNat xs.length))/\PT.get (.i (.o (.o (.i .h)))) t=some (v)/\PT.get (.o (.i (.o (.i .h)))) t=some (.int .i64 (.ofNat xs.length))/\PT.get (.i (.i (.o (.i .h)))) t=some (.int .i64 (.ofNat i))) ?_ xs.length _ _ ⟨rfl,0,by omega,fun j _ hj=>by omega,rfl,rfl,rfl,rfl⟩
 rintro k t H' ⟨rfl,i,hi,hj,t7,t24,t25,t26⟩
 by_cases hk:0<k
 .have hi2:i<xs.length:=by omega
  obtain⟨b,o,i1,i2⟩:=Rd.at1 h (z8n hi2)
  by_cases ha:xs[i]<xs.length
  .simp(maxDischargeDepth:=9)only[auX,bq,t7,t24,t25,t26,hi2,i1,i2,eq_false (Nat.not_lt_zero xs[i]),eq_false (show ¬ xs.length<=xs[i]by omega),z0o (i:=i) (k:=1) (by omega)]
   refine⟨k-1,by omega,i+1,by omega,fun j h1 h2=>?_,rfl⟩
   by_cases e:j=i
   .subst e;exact ha
   .exact hj j h1 (by omega)
  .simp(maxDischargeDepth:=9)only[auX,bq,t7,t24,t25,t26,hi2,i1,i2,eq_false (Nat.not_lt_zero xs[i]),eq_true (show xs.length<=xs[i]by omega),j9c]
 .exfalso
  refine hg fun x hx=>?_
  obtain⟨j,h1,rfl⟩:=List.mem_iff_getElem.1 hx
  exact hj j h1 (by omega)
end
end Go.Am
