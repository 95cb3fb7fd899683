import Derived.Test.YtepncpggenncoaaGreatDoorDc12
import Derived.Test.YtepncpggenncoaaGreatDoorDc8
set_option linter.all false
set_option maxRecDepth 20000
set_option maxHeartbeats 8000000
namespace Go.Am
open Go Go.Proofs
def t3(f:FV) :F3:=(f.1,f.2.2,f.2.2.length)
def r2(f:FV) :List Nat×Nat:=(f.2.2,f.2.2.length)
section
variable{E:Env}(C:CkS E)
include C
theorem j30{N:Nat}{H:AHeap}{pr FP FD:Pos}{fs:List F3}{nl ct:Nat}{files:List (List Nat×Nat)}{es:List Ent}{ctd:Nat}{SP SD:Pos->Prop}(P:Pr H pr FP FD fs nl 0 ct files [es] 0 ctd SP SD)(hN:N<=H.nx.toNat)(rb:RB files [es] 0 ctd)(hfl:files.length<=5)(hcd:ctd<8000)(hct:ct<70000)(hsum:(fs.map (·.2.1.length)).sum<=10000000){v:AVal}{l:List FV}(X:FX (fun p=>SP p\/SD p) H v l)(hl:l.length<=5)(ok:OkF es files.length (fs.map (·.1)) l) :
  ∃ r H' SP' SD',z0f E 6 [.ptr pr 0,v] H r H'/\Pr H' pr FP FD (fs++l.map t3) (fs++l.map t3).length 0 (ct+3*l.length+1) (files++l.map r2) [esF es files.length l] 0 (ctd+3*l.length+1) SP' SD'/\z9u N SP SD H SP' SD' H':=by
 have lv:∀ H2,fLen H2 1 v=some (.int .i64 (.ofNat l.length)):=fun _=>X.1.len
 suffices hh:∃ r H',z0f E 6 [.ptr pr 0,v] H r H'/\∃ SP' SD',Pr H' pr FP FD (fs++l.map t3) (fs++l.map t3).length 0 (ct+3*l.length+1) (files++l.map r2) [esF es files.length l] 0 (ctd+3*l.length+1) SP' SD'/\z9u N SP SD H SP' SD' H' from by
  obtain⟨r,H',a,SP',SD',b⟩:=hh
  exact⟨r,H',SP',SD',a,b⟩
 have s0:z9u N SP SD H SP SD H:=(Keep.refl N H).step (fun p hp=>hp.elim (P.p.lt p) (P.d.lt p))
 refine C.c6.rr (by conv=>lhs;reduce) ?_
 simp(maxDischargeDepth:=9)only[auX]
 refine W.loopI (fun k t H'=>∃ i dirsC esC fsC filesC SPc SDc,i+k=l.length/\PT.get .h t=some (.ptr pr 0)/\PT.get (.o .h) t=some (v)/\PT.get (.i (.o .h)) t=some (.int .i64 (.ofNat i))/\Pr H' pr FP FD fsC nl i (ct+3*i) filesC (dirsC++[esC]) i (ctd+3*i) SPc SDc/\FX (fun p=>SPc p\/SDc p) H' v l/\z9u N SP SD H SPc SDc H'/\RB filesC (dirsC++[esC]) i (ctd+3*i)/\dirsC.length=i/\filesC.length=files.length+i/\OkF esC filesC.length (fsC.map (·.1)) (l.drop i)/\fsC++(l.drop i).map t3=fs++l.map t3/\filesC++(l.drop i).map r2=files++l.map r2/\esF esC filesC.length (l.drop i)=esF es files.length l/\(fsC.map (·.2.1.length)).sum<=10000000+i*1000000) ?_ l.length _ _ ⟨0,[],es,fs,files,SP,SD,by omega,rfl,rfl,rfl,P,X,s0,rb,rfl,rfl,ok,rfl,rfl,rfl,by omega⟩
 rintro k t H0 ⟨i,dirsC,esC,fsC,filesC,SPc,SDc,hi,t0,t1,t4,P0,X0,st,rb0,hdl,hfl0,ok0,e1,e2,e3,hs0⟩
 by_cases hk:k=0
 .obtain rfl:i=l.length:=by omega
  rw[List.drop_length]at e1 e2 e3
  simp only[List.map_nil,List.append_nil]at e1 e2
  have e3:esC=esF es files.length l:=e3
  subst e1 e2 e3
  obtain⟨H1,SP1,c1,Q1,u1⟩:=y3u C (N:=H0.nx.toNat) P0.p lr (by omega)
  obtain⟨P1,T1⟩:=P0.stepP lr Q1 u1
  have n1:=T1.nx
  obtain⟨H2,SD2,c2,R2,u2⟩:=z84 C.toCk (N:=H1.nx.toNat) P1.d lr (by have:=rb0.e (esF es files.length l) (by simp);omega) (by omega) (by omega) (by omega) (by omega)
  obtain⟨P2,T2⟩:=P1.stepD lr R2 u2
  have n0:=st.nx
  simp(maxDischargeDepth:=9)only[auX,↓reduceIte,zA,aZ,t0,t1,t4,lv,eq_false (Nat.lt_irrefl l.length),hl_g P0.g,hl_g P1.g,z0c c1,z0c c2]
  exact⟨_,_,P2,(st.trans (T1.mono (by omega))).trans (T2.mono (by omega))⟩
 .have hi2:i<l.length:=by omega
  rw[List.drop_eq_getElem_cons hi2]at ok0 e1 e2 e3
  obtain⟨a1,a2,a3,a4,a5,a6,a7,a8⟩:=ok0
  obtain⟨H1,H2,H3,H4,H5,H6,H7,w,SP',SD',c1,c2,c3,c4,c5,c6,c7,sw,hq,P7,X7,st7,rb7⟩:=k0y C (N:=N) P0 (by have:=st.nx;omega) rb0 (by omega) (by omega) (by omega) (by omega) (by omega) (by omega) (by omega) X0 hi2 ⟨a1,a2,a3,a4,a5,a6,a7⟩
  obtain⟨b,o,x1,hx⟩:=X0.at hi2
  have sd:=(X0.2.2 _ (List.getElem_mem hi2)).1.sc
  have sv:=And.intro X0.1.scal X0.1.same
  obtain⟨g0,Q0,Y0⟩:=hq H0 (by simp)
  have l0:=hx Q0 _ Y0
  obtain⟨g1,Q1,Y1⟩:=hq H1 (by simp)
  have l1:=hx Q1 _ Y1
  obtain⟨g2,Q2,Y2⟩:=hq H2 (by simp)
  have l2:=hx Q2 _ Y2
  obtain⟨g3,Q3,Y3⟩:=hq H3 (by simp)
  have l3:=hx Q3 _ Y3
  obtain⟨g4,Q4,Y4⟩:=hq H4 (by simp)
  have l4:=hx Q4 _ Y4
  obtain⟨g5,Q5,Y5⟩:=hq H5 (by simp)
  have l5:=hx Q5 _ Y5
  obtain⟨g6,Q6,Y6⟩:=hq H6 (by simp)
  have l6:=hx Q6 _ Y6
  simp(maxDischargeDepth:=9)only[auX,reduceCtorEq,zA,aZ,Nat.reduceAnd,t0,t1,t4,lv,hi2,x1,sv,hl_g g0,hl_g g1,hl_g g2,hl_g g3,hl_g g4,hl_g g5,hl_g g6,l0,l1,l2,l3,l4,l5,l6,z0j c1,z0j c2,z0j c3,z0j c4,z0j c5,z0j c6,z0j c7,z0o (i:=i) (k:=1) (by omega)]
  have q1:ct+3*(i+1)=ct+3*i+3:=by omega
  have q2:ctd+3*(i+1)=ctd+3*i+3:=by omega
  have q3:(filesC++[r2 l[i]]).length=filesC.length+1:=by simp
  refine⟨k-1,by omega,i+1,dirsC++[esC],z1k esC filesC.length l[i].1,fsC++[t3 l[i]],filesC++[r2 l[i]],SP',SD',by omega,rfl,by rw[q1,q2];exact P7,X7,st.trans st7,by rw[q2];exact rb7,by simp;omega,by omega,?_,?_,?_,?_,?_⟩
  .rw[q3,List.map_append];exact a8
  .rw[List.append_assoc];exact e1
  .rw[List.append_assoc];exact e2
  .rw[q3];exact e3
  .rw[List.map_append,List.sum_append]
   show _+(l[i].2.2.length+0)<=_
   omega
end
def BN(N:Nat)(H:AHeap)(v:AVal)(us:List Nat) :Prop:=By H v us/\∀ p,blk v p->N<=p.toNat
theorem BN.keep{N m:Nat}{H H':AHeap}{v:AVal}{us:List Nat}(h:BN N H v us)(k:Keep m H H')(hm:H.nx.toNat<=m) :BN N H' v us:=⟨h.1.keep k hm,h.2⟩
theorem BN.mono{N M:Nat}{H:AHeap}{v:AVal}{us:List Nat}(h:BN N H v us)(hm:M<=N) :BN M H v us:=⟨h.1,fun p hp=>Nat.le_trans hm (h.2 p hp)⟩
theorem Bo.bn{N:Nat}{H:AHeap}{v:AVal}{us:List Nat}(h:Bo N H v us) :BN N H v us:=⟨h.by,h.1.2⟩
def LN(A:Pos->Prop)(H:AHeap)(v:AVal)(uss:List (List Nat)) :Prop:=∃ zs:List (AVal×List Nat),zs.map (·.2)=uss/\GS 1 H v zs.length (zs.map (·.1))/\(∀ p,blk v p->A p)/\∀ z∈zs,By H z.1 z.2/\∀ p,blk z.1 p->A p/\¬ blk v p
theorem LN.nil{A:Pos->Prop}{H:AHeap} :LN A H .snil []:=⟨[],rfl,GS.nil,(fun p hp=>by cases hp),fun z hz=>by cases hz⟩
theorem LN.frame{A B:Pos->Prop}{H H':AHeap}{v:AVal}{uss:List (List Nat)}(h:LN A H v uss)(hB:∀ p,A p->p.toNat<H.nx.toNat->B p/\PT.get p H'.t=PT.get p H.t)(hn:H.nx.toNat<=H'.nx.toNat) :LN B H' v uss:=by
 obtain⟨zs,h1,h2,h3,h4⟩:=h
 exact⟨zs,h1,h2.other (fun p hp=>(hB p (h3 p hp) (h2.rd.blk_lt p hp)).2) hn,fun p hp=>(hB p (h3 p hp) (h2.rd.blk_lt p hp)).1,fun z hz=>⟨(h4 z hz).1.other (fun p hp=>(hB p ((h4 z hz).2 p hp).1 ((h4 z hz).1.1.blk_lt p hp)).2) hn,fun p hp=>⟨(hB p ((h4 z hz).2 p hp).1 ((h4 z hz).1.1.blk_lt p hp)).1,((h4 z hz).2 p hp).2⟩⟩⟩
theorem LN.keep{A:Pos->Prop}{m:Nat}{H H':AHeap}{v:AVal}{uss:List (List Nat)}(h:LN A H v uss)(k:Keep m H H')(hm:H.nx.toNat<=m) :LN A H' v uss:=h.frame (fun p ha hp=>⟨ha,k.get p (by omega)⟩) k.nx
theorem LN.lr{A:Pos->Prop}{H:AHeap}{v:AVal}{uss:List (List Nat)}(h:LN A H v uss) :LR H v uss:=by
 obtain⟨zs,h1,h2,_,h3⟩:=h
 exact⟨zs,h1,h2.rd,fun z hz=>(h3 z hz).1⟩
theorem LN.lt{A:Pos->Prop}{H:AHeap}{v:AVal}{uss:List (List Nat)}(h:LN A H v uss)(p:Pos)(hp:blk v p) :p.toNat<H.nx.toNat:=by
 obtain⟨zs,_,G,_⟩:=h
 exact G.rd.blk_lt p hp
theorem LN.sc{A:Pos->Prop}{H:AHeap}{v:AVal}{uss:List (List Nat)}(h:LN A H v uss) :z1g v=true/\same v v=true:=by
 obtain⟨zs,_,G,_⟩:=h
 exact⟨G.rd.scal,G.rd.same⟩
theorem LN.more{A:Pos->Prop}{H:AHeap}{v w:AVal}{uss:List (List Nat)}{us:List Nat}(h:LN A H v uss)(hA:∀ p:Pos,H.nx.toNat<=p.toNat->A p)(hw:By H w us)(hwv:∀ p,blk w p->A p/\¬ blk v p)(hl:uss.length<=1000000) :∃ v' H',z09 (H.new (.cells [w] false false)).2 1 24 v (.sl H.nx 0 1 1 0)=some (v',H')/\LN A H' v' (uss++[us])/\H.nx.toNat<=H'.nx.toNat/\∀ p:Pos,p.toNat<H.nx.toNat->¬ A p->PT.get p H'.t=PT.get p H.t:=by
 obtain⟨zs,rfl,G,hv,hz⟩:=h
 simp at hl
 obtain⟨v',H',a,G',K,fr,fb,nn⟩:=z2u (N:=0) (by':=24) (by omega) ⟨G,fun p _=>Nat.zero_le _⟩ (Nat.zero_le _) (row:=[w]) rfl (by rw[z0p hw.sc.2.1];rfl) (by omega)
 refine⟨v',H',a,⟨zs++[(w,us)],by simp,by rw[List.map_append,List.length_append];exact G'.1,fun p hp=>hA p (Nat.le_of_lt (fb p hp)),fun z hzz=>?_⟩,nn,fun p hp ha=>fr p hp (fun e=>ha (hv p e))⟩
 have key:∀ z:AVal×List Nat,By H z.1 z.2->(∀ p,blk z.1 p->A p/\¬ blk v p)->By H' z.1 z.2/\∀ p,blk z.1 p->A p/\¬ blk v' p:=fun z hb hv=>⟨hb.other (fun p hp=>fr p (hb.1.blk_lt p hp) (hv p hp).2) nn,fun p hp=>⟨(hv p hp).1,fun e=>by have:=fb p e;have:=hb.1.blk_lt p hp;omega⟩⟩
 rcases List.mem_append.1 hzz with h1 | h1
 .exact key z (hz z h1).1 (hz z h1).2
 .obtain rfl:z=(w,us):=by simpa using h1
  exact key _ hw hwv
theorem q9a{H:AHeap}{v:AVal}{n:Nat}{cs:List AVal}(h:Rd 1 H v n cs){m:Nat}(hm:m<=n)(h0:0<m) :∃ w,Rd 1 H w m (cs.take m)/\∀ {t:PT AVal} {x y:AOpnd},x.ev t=.int .i64 (.ofNat m)->y.ev t=.int .i64 (.ofNat m)->z0w t (.sl 1) v none (some x) (some y)=some w:=by
 obtain⟨hl,⟨rfl,rfl⟩ | ⟨p,o,c,z,rfl,hg,hz,hc,hlt⟩⟩:=h
 .omega
 have hg':z0t H p o (m*1)=some (cs.take m):=by
  obtain⟨_,s,_⟩:=z2e hg
  have:=s 0 m (by omega)
  rw[Nat.mul_one]
  simpa using this
 refine⟨.sl p o m m 0,⟨by rw[List.length_take];omega,.inr ⟨p,o,m,0,rfl,hg',.inl rfl,lr,hlt⟩⟩,fun {t x y} hx hy=>?_⟩
 rcases hz with rfl | rfl
 .simp only[z0w,bo_s hy (show m<=c by omega),bo_s hx (Nat.le_refl m),bo_n,j0k (show m≠0 by omega),nsub,nadd,nmul,Nat.zero_mul,aZ,Nat.sub_zero]
 .simp only[z0w,bo_s hy (show m<=c by omega),bo_s hx (Nat.le_refl m),bo_n,j0k (show m≠0 by omega),nsub,nadd,nmul,Nat.zero_mul,aZ,Nat.sub_zero]
section
variable{E:Env}(C:Ck E)
include C
theorem y81{H:AHeap}{v:AVal}{us:List Nat}(h:By H v us)(hl:us.length<=1000000){m:Nat}(hm:m<=100) :∃ rest H',rest.length=m/\z0f E 324 [v,.int .i64 (.ofNat m)] H (.sl H.nx 0 us.length (us.length+m) 0) H'/\PT.get H.nx H'.t=some (.cells (z0b us++rest) false false)/\H'.nx=H.nx.succ/\Keep H.nx.toNat H H':=by
 have k0:Keep H.nx.toNat H (H.new (.cells (repl [.int .u8 (.ofNat 0)] (us.length+m)) false false)).2:=z0d
 have b0:=h.keep k0 lr
 have hlen:(repl [AVal.int .u8 (.ofNat 0)] (us.length+m)).length=us.length+m:=z2d _ _
 have hc:=z1d us
 have st:z05 (H.new (.cells (repl [.int .u8 (.ofNat 0)] (us.length+m)) false false)).2 H.nx 0 (z0b us)=some (((H.new (.cells (repl [.int .u8 (.ofNat 0)] (us.length+m)) false false)).2).upd H.nx (.cells (z0b us++(repl [.int .u8 (.ofNat 0)] (us.length+m)).drop us.length) false false)):=by
  have e:lput (repl [AVal.int .u8 (.ofNat 0)] (us.length+m)) 0 (z0b us)=some (z0b us++(repl [.int .u8 (.ofNat 0)] (us.length+m)).drop us.length):=by
   rw[z36 _ _ _ (by rw[hlen,hc];omega),hc]
   simp
  rw[z0z z0i (z3p us) (by rw[e];rfl),e]
  rfl
 have hf:z31 (H.new (.cells (repl [.int .u8 (.ofNat 0)] (us.length+m)) false false)).2 1 (Nat.min us.length us.length) v=some (z0b us):=by
  have:Nat.min us.length us.length=us.length:=Nat.min_self _
  rw[this]
  exact b0.first
 refine⟨(repl [.int .u8 (.ofNat 0)] (us.length+m)).drop us.length,_,by rw[List.length_drop,hlen];omega,?_,z0q,rfl,k0.trans (z0s lr)⟩
 refine C.c324.re (by conv=>lhs;reduce) ?_
 simp(maxDischargeDepth:=9)only[auX,h.sc,z0o (i:=us.length) (k:=m) (by omega),j2w (bytes:=1) (n:=us.length) (c:=us.length+m) ⟨by omega,by omega,by omega⟩,q4h (cap:=us.length+m) (z:=0) h.len hf st]
theorem k00{H:AHeap} :z0f E 379 [.int .i64 (.ofNat 0)] H (.int .i64 (.ofNat 1)) H:=by
 suffices hh:∃ r H2,z0f E 379 [.int .i64 (.ofNat 0)] H r H2/\(r=.int .i64 (.ofNat 1)/\H2=H)from by
  obtain⟨_,_,hc,rfl,rfl⟩:=hh
  exact hc
 refine C.c379.rr (by conv=>lhs;reduce) ?_
 simp(maxDischargeDepth:=9)only[auX]
 refine W.loopI (fun k t H2=>H2=H/\PT.get .h t=some (.int .i64 (.ofNat 0))/\PT.get (.o (.o .h)) t=some (.int .i64 (.ofNat 1))) ?_ 0 _ _ ⟨rfl,rfl,rfl⟩
 rintro k t H2 ⟨rfl,t0,t3⟩
 simp(maxDischargeDepth:=9)only[auX,↓reduceIte,t0,t3,eq_false (show ¬ 128<=0 by omega)]
theorem q9p{H:AHeap}{v:AVal}{us:List Nat}(h:By H v us)(hl:us.length<=1000000) :∃ w H',z0f E 320 [v,.int .i64 (.ofNat 0)] H w H'/\BN H.nx.toNat H' w (us++[0])/\Keep H.nx.toNat H H':=by
 obtain⟨rest,H1,hr,c1,g1,nx,K1⟩:=y81 C h hl (m:=9) (by omega)
 have n1:H1.nx.toNat=H.nx.toNat+1:=by rw[nx,Pos.toNat_succ]
 have hc:=z1d us
 have hx:z1e (H1.new (.cells [.int .u8 (.ofNat 0)] false false)).2 1 (.sl H1.nx 0 1 1 0)=some (1,[.int .u8 (.ofNat 0)]):=z9y rfl
 have g2:PT.get H.nx (H1.new (.cells [.int .u8 (.ofNat 0)] false false)).2.t=some (.cells (z0b us++rest) false false):=(z0d.get H.nx (by omega)).trans g1
 have e:lput (z0b us++rest) us.length [.int .u8 (.ofNat 0)]=some (z0b (us++[0])++rest.drop 1):=by
  rw[z36 _ _ _ (by rw[List.length_append,hc,hr];show _+1<=_;omega),<-hc,List.take_left,z33]
  congr 2
  show List.drop ((z0b us).length+1) _=_
  rw[<-List.drop_drop,List.drop_left]
 obtain⟨H2,hH2⟩ :∃ A,A=(H1.new (.cells [.int .u8 (.ofNat 0)] false false)).2.upd H.nx (.cells (z0b (us++[0])++rest.drop 1) false false):=⟨_,rfl⟩
 have ap:z09 (H1.new (.cells [.int .u8 (.ofNat 0)] false false)).2 1 1 (.sl H.nx 0 us.length (us.length+9) 0) (.sl H1.nx 0 1 1 0)=some (.sl H.nx 0 (us.length+1) (us.length+9) 0,H2):=by
  unfold z09
  simp only[hx,z4u (show Nat.add us.length 1<=us.length+9 by rw[nadd];omega)]
  have e':Nat.add 0 (Nat.mul us.length 1)=us.length:=by rw[nadd,nmul];omega
  rw[e',z0z g2 rfl (by rw[e];rfl),e,hH2]
  rfl
 have K2:Keep H.nx.toNat H H2:=by
  rw[hH2]
  exact(K1.trans (z0d.mono (by omega))).trans (z0s lr)
 have B2:BN H.nx.toNat H2 (.sl H.nx 0 (us.length+1) (us.length+9) 0) (us++[0]):=by
  refine⟨⟨⟨by rw[z1d];omega,.inr ⟨H.nx,0,us.length+9,0,by rw[List.length_append];rfl,?_,.inl rfl,by rw[List.length_append];show us.length+1<=_;omega,?_⟩⟩,fun u hu=>?_⟩,fun p hp=>by cases hp;exact lr⟩
  .rw[hH2,z2x z0q,z27 (by simp only[List.length_append,z1d,List.length_cons,List.length_nil];omega)]
   rw[List.drop_zero,Nat.mul_one,<-z1d (us++[0]),List.take_left]
  .rw[hH2];show H.nx.toNat<H1.nx.succ.toNat;rw[Pos.toNat_succ];omega
  .rcases List.mem_append.1 hu with hu | hu
   .exact h.2 u hu
   .rw[List.mem_singleton.1 hu];omega
 have z3:z0l .mul (.int .i64 (.ofNat 7)) (.int .i64 (.ofNat 0))=some (.int .i64 (.ofNat 0)):=rfl
 have z4:z0l .shr (.int .i64 (.ofNat 0)) (.int .i64 (.ofNat 0))=some (.int .i64 (.ofNat 0)):=rfl
 have z5:z0l .and (.int .u8 (.ofNat 0)) (.int .u8 (.ofNat 127))=some (.int .u8 (.ofNat 0)):=rfl
 have z6:z1n .u8 (.ofNat 0)=.ofNat 0:=rfl
 have z8:z0l .geq (.int .i64 (.negSucc 0)) (.int .i64 (.ofNat 0))=some (.bool false):=rfl
 have z1:z0l .sub (.int .i64 (.ofNat 1)) (.int .i64 (.ofNat 1))=some (.int .i64 (.ofNat 0)):=rfl
 have z9:mmA true (.int .i64 (.ofNat 0)) [.int .i64 (.ofNat 0)]=some (.int .i64 (.ofNat 0)):=rfl
 have cp:z0f E 358 [.sl H.nx 0 us.length (us.length+9) 0,.int .i64 (.ofNat 0)] H1 (.sl H.nx 0 (us.length+1) (us.length+9) 0) H2:=by
  suffices hh:∃ r H3,z0f E 358 [.sl H.nx 0 us.length (us.length+9) 0,.int .i64 (.ofNat 0)] H1 r H3/\(r=.sl H.nx 0 (us.length+1) (us.length+9) 0/\H3=H2)from by
   obtain⟨_,_,hc,rfl,rfl⟩:=hh
   exact hc
  refine C.c358.rr (by conv=>lhs;reduce) ?_
  simp(maxDischargeDepth:=9)only[auX,z9,z0c (k00 C (H:=H1)),z1]
  refine W.loopI (fun k t H3=>((k=1/\H3=H1/\PT.get .h t=some (.sl H.nx 0 us.length (us.length+9) 0)/\PT.get (.o (.i .h)) t=some (.int .i64 (.ofNat 0)))\/(k=0/\H3=H2/\PT.get .h t=some (.sl H.nx 0 (us.length+1) (us.length+9) 0)/\PT.get (.o (.i .h)) t=some (.int .i64 (.negSucc 0))))/\PT.get (.o .h) t=some (.int .i64 (.ofNat 0))) ?_ 1 _ _ ⟨.inl ⟨rfl,rfl,rfl,rfl⟩,rfl⟩
  rintro k t H3 ⟨⟨rfl,rfl,t0,t5⟩ | ⟨rfl,rfl,t0,t5⟩,t1⟩
  .simp(maxDischargeDepth:=9)only[auX,t0,t1,t5,z0r ap,y5w,z3,z4,z5,z6,eq_true (Nat.le_refl 0),eq_false (Nat.lt_irrefl 0)]
   exact⟨0,by omega,.inr rfl⟩
  .simp(maxDischargeDepth:=9)only[auX,↓reduceIte,t0,t5,z8]
 refine⟨_,H2,?_,B2,K2⟩
 refine C.c320.re (by conv=>lhs;reduce) ?_
 simp(maxDischargeDepth:=9)only[auX,z0c c1,z0c cp]
end
theorem q5p{by':Nat}{b:Pos}{H:AHeap}{x:AVal}{n c m:Nat}{cs new rest:List AVal}(hg:PT.get b H.t=some (.cells (cs++rest) false false))(hx:z1e H 1 x=some (m,new))(hc:cs.length=n)(hm:new.length=m)(hr:m<=rest.length)(hn:n+m<=c)(hs:z1l new=true) :z09 H 1 by' (.sl b 0 n c 0) x=some (.sl b 0 (n+m) c 0,H.upd b (.cells ((cs++new)++rest.drop m) false false)):=by
 have e:lput (cs++rest) n new=some ((cs++new)++rest.drop m):=by
  rw[z36 _ _ _ (by rw[List.length_append];omega),<-hc,List.take_left,<-List.drop_drop,List.drop_left,hm]
 have e':Nat.add 0 (Nat.mul n 1)=n:=by rw[nadd,nmul];omega
 unfold z09
 simp only[hx,z4u (show Nat.add n m<=c from hn)]
 rw[e',z0z hg hs (by rw[e];rfl),e]
 rfl
theorem z8n{xs:List Nat}{i:Nat}(h:i<xs.length) :(ics xs)[i]? = some (.int .i64 (.ofNat xs[i])):=by simp[h]
theorem Rd.two{H:AHeap}{v w:AVal}{n m:Nat}{cs ds:List AVal}(_:Rd 1 H v n cs)(_:Rd 1 H w m ds) :True:=trivial
section
variable{E:Env}(C:Ck E)
include C
theorem q66{H:AHeap}{v:AVal}{us:List Nat}(h:By H v us)(hl:us.length<=1000000) :∃ q w H',z0f E 264 [v] H (.ptr q 0) H'/\PT.get q H'.t=some (.cells [w,.int .i64 (.ofNat 0),.int .i64 (.ofNat 0)] false false)/\By H' w us/\H.nx.toNat<=q.toNat/\q.toNat<H'.nx.toNat/\¬ blk w q/\(∀ p,blk w p->H.nx.toNat<=p.toNat)/\Keep H.nx.toNat H H':=by
 obtain⟨rest,H1,hr,c1,g1,nx,K1⟩:=y81 C h hl (m:=0) (by omega)
 obtain rfl:rest=[]:=by simpa using hr
 have n1:H1.nx.toNat=H.nx.toNat+1:=by rw[nx,Pos.toNat_succ]
 rw[List.append_nil]at g1
 rw[Nat.add_zero]at c1
 have b1:By H1 (.sl H.nx 0 us.length us.length 0) us:=⟨⟨by rw[z1d];omega,.inr ⟨H.nx,0,us.length,0,rfl,by rw[z2x g1,z27 (by rw[z1d];omega),List.drop_zero,Nat.mul_one,<-z1d us,List.take_length],.inl rfl,lr,by omega⟩⟩,h.2⟩
 refine⟨H1.nx,_,(H1.new (.cells [.sl H.nx 0 us.length us.length 0,.int .i64 (.ofNat 0),.int .i64 (.ofNat 0)] false false)).2,?_,z0i,b1.keep z0d lr,by omega,z0h,fun e=>by have:H1.nx=H.nx:=e;rw[this]at n1;omega,(fun p hp=>by cases hp;exact lr),K1.trans (z0d.mono (by omega))⟩
 refine C.c264.re (by conv=>lhs;reduce) ?_
 simp(maxDischargeDepth:=9)only[auX,z0c c1]
theorem q7a{H:AHeap}{q:Pos}{w:AVal}{us:List Nat}{at':Nat}(g:PT.get q H.t=some (.cells [w,.int .i64 (.ofNat at'),.int .i64 (.ofNat 0)] false false))(h:By H w us)(ha:at'<=us.length)(hl:us.length<=1000000) :z0f E 267 [.ptr q 0] H (.int .i64 (.ofNat (us.length-at'))) H:=by
 refine C.c267.re (by conv=>lhs;reduce) ?_
 simp(maxDischargeDepth:=9)only[auX,zA,aZ,hl_g g,h.sc,z74 (i:=us.length) (k:=at') ha (by omega)]
theorem k1f{H:AHeap}{q:Pos}{w:AVal}{at':Nat}(g:PT.get q H.t=some (.cells [w,.int .i64 (.ofNat at'),.int .i64 (.ofNat 0)] false false)) :z0f E 266 [.ptr q 0] H (.tup [.int .i64 (.ofNat 0),.int .i64 (.ofNat at')]) H:=by
 refine C.c266.re (by conv=>lhs;reduce) ?_
 simp(maxDischargeDepth:=9)only[auX,zA,hl_g g]
theorem q7q{H:AHeap}{v:AVal}{us:List Nat}(h:By H v us)(h0:0<us.length)(hz:us[0]=0)(hl:us.length<=1000000) :z0f E 325 [v] H (.tup [.int .i64 (.ofNat 0),.int .i64 (.ofNat 1),.int .i64 (.ofNat 0)]) H:=by
 obtain⟨b,o,i1,i2⟩:=h.at h0
 rw[hz]at i2
 obtain⟨w,hw,sl⟩:=q9a h.1 (m:=min us.length 9) (by omega) (by omega)
 rw[z3b]at hw
 have lw:∀ H2,fLen H2 1 w=some (.int .i64 (.ofNat (min us.length 9))):=fun _=>hw.len
 obtain⟨p,q,j1,j2⟩:=Rd.at1 hw (i:=0) (x:=.int .u8 (.ofNat 0)) (by rw[y3d (by rw[List.length_take];omega)];simp[hz])
 have z1:z0l .shl (.int .i64 (.ofNat 0)) (.int .u64 (.ofNat 7))=some (.int .i64 (.ofNat 0)):=rfl
 have z2:z0l .and (.int .u8 (.ofNat 0)) (.int .u8 (.ofNat 127))=some (.int .u8 (.ofNat 0)):=rfl
 have z3:z0l .or (.int .i64 (.ofNat 0)) (.int .i64 (.ofNat 0))=some (.int .i64 (.ofNat 0)):=rfl
 have z4:z1n .i64 (.ofNat 0)=.ofNat 0:=rfl
 suffices hh:∃ r H2,z0f E 325 [v] H r H2/\(r=.tup [.int .i64 (.ofNat 0),.int .i64 (.ofNat 1),.int .i64 (.ofNat 0)]/\H2=H)from by
  obtain⟨_,_,hc,rfl,rfl⟩:=hh
  exact hc
 have sw:=And.intro hw.scal hw.same
 refine C.c325.rr (by conv=>lhs;reduce) ?_
 simp(maxDischargeDepth:=9)only[auX,bq,reduceCtorEq,h.sc,eq_true h0,i1,i2,y4g,sl,lw]
 refine W.loopI (fun k t H2=>H2=H/\PT.get (.o (.i .h)) t=some (.int .i64 (.ofNat 0))/\PT.get (.i (.o (.o (.i .h)))) t=some (w)/\PT.get (.o (.i (.o (.i .h)))) t=some (.int .i64 (.ofNat (min us.length 9)))/\PT.get (.i (.i (.o (.i .h)))) t=some (.int .i64 (.ofNat 0))) ?_ 0 _ _ ⟨rfl,rfl,rfl,rfl,rfl⟩
 rintro k t H2 ⟨rfl,t5,t24,t25,t26⟩
 simp(maxDischargeDepth:=9)only[auX,Nat.reduceLT,zA,t5,t24,t25,t26,eq_true (show 0<min us.length 9 by omega),j1,j2,z1,z2,z3,z4,z0o (i:=0) (k:=1) (by omega)]
theorem k04{H:AHeap}{q:Pos}{w:AVal}{us:List Nat}{at':Nat}(g:PT.get q H.t=some (.cells [w,.int .i64 (.ofNat at'),.int .i64 (.ofNat 0)] false false))(h:By H w us)(ha:at'<us.length)(hz:us[at']=0)(hl:us.length<=1000000) :z0f E 265 [.ptr q 0] H (.int .i64 (.ofNat 0)) (H.upd q (.cells [w,.int .i64 (.ofNat (at'+1)),.int .i64 (.ofNat 0)] false false)):=by
 obtain⟨x,hx,_,_,_,s⟩:=h.sub (a:=at') (b:=us.length) (by omega) lr (by omega)
 rw[List.take_of_length_le (by rw[List.length_drop];omega)]at hx
 have hc:=q7q C hx (by rw[List.length_drop];omega) (by rw[List.getElem_drop];simpa using hz) (by rw[List.length_drop];omega)
 have sx:=hx.sc
 refine C.c265.re (by conv=>lhs;reduce) ?_
 simp(maxDischargeDepth:=9)only[auX,reduceCtorEq,zA,aZ,Nat.reduceAnd,hl_g g,s rfl,z0j hc,z0o (i:=at') (k:=1) (by omega),z0z g]
theorem j7v{H:AHeap}{m:Nat}(h:m<=2147483647) :z0f E 367 [.int .i64 (.ofNat m)] H (.bool true) H:=by
 refine C.c367.re (by conv=>lhs;reduce) ?_
 simp(maxDischargeDepth:=9)only[auX,bq,eq_true (Nat.zero_le m),eq_true h]
theorem y9k{H:AHeap}{v w:AVal}{us vs:List Nat}(h1:By H v us)(h2:By H w vs) :z0f E 124 [v,w] H (.bool (z14 us vs)) H:=by
 refine C.c124.re (by conv=>lhs;reduce) ?_
 simp(maxDischargeDepth:=9)only[auX,h1.str,h2.str]
theorem j9v{H:AHeap}{v:AVal}{xs:List Nat}(h:Rd 1 H v xs.length (ics xs))(hx:∀ x∈xs,x<4294967296)(hl:xs.length<=1000) :∃ w H',z0f E 348 [v] H w H'/\Bo H.nx.toNat H' w (xs.flatMap b4)/\Keep H.nx.toNat H H':=by
 have k0:Keep H.nx.toNat H (H.new (.cells (repl [.int .u8 (.ofNat 0)] (4*xs.length)) false false)).2:=z0d
 have hr0:(repl [AVal.int .u8 (.ofNat 0)] (4*xs.length)).length=4*xs.length:=z2d _ _
 have lf:∀ l:List Nat,(l.flatMap b4).length=4*l.length:=fun l=>by
  induction l with
  | nil=>rfl
  | cons a l ih=>simp only[List.flatMap_cons,List.length_append,ih,z0k,List.length_cons];omega
 have lv:∀ H2,fLen H2 1 v=some (.int .i64 (.ofNat xs.length)):=fun _=>h.len
 refine⟨.sl H.nx 0 (4*xs.length) (4*xs.length) 0,?_⟩
 suffices hh:∃ r H',z0f E 348 [v] H r H'/\(r=.sl H.nx 0 (4*xs.length) (4*xs.length) 0/\Bo H.nx.toNat H' (.sl H.nx 0 (4*xs.length) (4*xs.length) 0) (xs.flatMap b4)/\Keep H.nx.toNat H H')from by
  obtain⟨_,H',hc,rfl,a,b⟩:=hh
  exact⟨H',hc,a,b⟩
 refine C.c348.rr (by conv=>lhs;reduce) ?_
 simp(maxDischargeDepth:=9)only[auX,lv,j0l (i:=4) (k:=xs.length) (by omega),j2w (bytes:=1) (n:=0) (c:=4*xs.length) ⟨by omega,by omega,by omega⟩]
 refine W.loopI (fun k t H'=>∃ i rest,i+k=xs.length/\rest.length=4*xs.length-4*i/\PT.get H.nx H'.t=some (.cells (z0b ((xs.take i).flatMap b4)++rest) false false)/\Keep H.nx.toNat H H'/\H.nx.toNat<H'.nx.toNat/\PT.get (.o (.o .h)) t=some (.sl H.nx 0 (4*i) (4*xs.length) 0)/\PT.get (.i (.i (.o .h))) t=some (v)/\PT.get (.o (.o (.i .h))) t=some (.int .i64 (.ofNat xs.length))/\PT.get (.i (.o (.i .h))) t=some (.int .i64 (.ofNat i))) ?_ xs.length _ _ ⟨0,_,by omega,by rw[hr0];omega,z0i,k0,z0h,rfl,rfl,rfl,rfl⟩
 rintro k t H' ⟨i,rest,hi,hr,g,K,hn,t3,t10,t11,t12⟩
 by_cases hk:k=0
 .obtain rfl:i=xs.length:=by omega
  obtain rfl:rest=[]:=by
   have:rest.length=0:=by omega
   simpa using this
  rw[List.take_length,List.append_nil]at g
  simp(maxDischargeDepth:=9)only[auX,↓reduceIte,t3,t11,t12,eq_false (Nat.lt_irrefl xs.length)]
  refine⟨⟨⟨⟨by rw[z1d];omega,.inr ⟨H.nx,0,false,by rw[lf],g,.inl rfl,hn⟩⟩,fun p hp=>by cases hp;exact lr⟩,fun u hu=>?_⟩,K⟩
  obtain⟨a,_,ha⟩:=List.mem_flatMap.1 hu
  exact j2p a u ha
 .have hi2:i<xs.length:=by omega
  obtain⟨p,o,i1,i2⟩:=Rd.at1 (h.keep K lr) (z8n hi2)
  have hxi:=hx _ (List.getElem_mem hi2)
  have hx:z1e (H'.new (.cells (z0b (b4 xs[i])) false false)).2 1 (.sl H'.nx 0 4 4 0)=some (4,z0b (b4 xs[i])):=by
   unfold z1e
   simp only[z2x (z0i (H:=H') (x:=.cells (z0b (b4 xs[i])) false false))]
   rfl
  have g':PT.get H.nx (H'.new (.cells (z0b (b4 xs[i])) false false)).2.t=some (.cells (z0b ((xs.take i).flatMap b4)++rest) false false):=(z0d.get H.nx hn).trans g
  have ap:=q5p (by':=1) (c:=4*xs.length) g' hx (n:=4*i) (by rw[z1d,lf,List.length_take];omega) rfl (by omega) (by omega) rfl
  have e:z0b ((xs.take i).flatMap b4)++z0b (b4 xs[i])=z0b ((xs.take (i+1)).flatMap b4):=by
   rw[<-z33,List.take_succ_eq_append_getElem hi2,List.flatMap_append]
   simp
  rw[e]at ap
  rw[q76 hxi]at ap
  simp(maxDischargeDepth:=9)only[auX,t3,t10,t11,t12,hi2,i1,i2,shs,Nat.mod_eq_of_lt (show xs[i]/16777216<256 by omega),z0r ap,z0o (i:=i) (k:=1) (by omega)]
  refine⟨k-1,by omega,i+1,rest.drop 4,by omega,by rw[List.length_drop];omega,rfl,(K.trans (z0d.mono K.nx)).trans (z0s lr),?_,by rw[Nat.mul_add],rfl⟩
  exact Nat.lt_trans hn z0h
end
theorem q57{H:AHeap}{v:AVal}{n:Nat}{cs:List AVal}(h:Rd 1 H v n cs){a b:Nat}(hab:a<b)(hb:b<=n) :∃ w,Rd 1 H w (b-a) ((cs.drop a).take (b-a))/\(∀ p,blk w p->blk v p)/\∀ {t:PT AVal} {x y z:AOpnd},x.ev t=.int .i64 (.ofNat a)->y.ev t=.int .i64 (.ofNat b)->z.ev t=.int .i64 (.ofNat b)->z0w t (.sl 1) v (some x) (some y) (some z)=some w:=by
 obtain⟨hl,⟨rfl,rfl⟩ | ⟨p,o,c,z,rfl,hg,hz,hc,hlt⟩⟩:=h
 .omega
 have hg':z0t H p (o+a) ((b-a)*1)=some ((cs.drop a).take (b-a)):=by
  obtain⟨_,s,_⟩:=z2e hg
  rw[Nat.mul_one]
  exact s a (b-a) (by omega)
 refine⟨.sl p (o+a) (b-a) (b-a) 0,⟨by rw[List.length_take,List.length_drop];omega,.inr ⟨p,o+a,b-a,0,rfl,hg',.inl rfl,lr,hlt⟩⟩,(fun q hq=>hq),fun {t x y z} hx hy hz'=>?_⟩
 have hmul:Nat.mul a 1=a:=Nat.mul_one a
 rcases hz with rfl | rfl
 .simp only[z0w,bo_s hz' (show b<=c by omega),bo_s hy (Nat.le_refl b),bo_s hx (Nat.le_of_lt hab),j0k (show b≠a by omega),nsub,nadd,hmul]
 .simp only[z0w,bo_s hz' (show b<=c by omega),bo_s hy (Nat.le_refl b),bo_s hx (Nat.le_of_lt hab),j0k (show b≠a by omega),nsub,nadd,hmul]
section
variable{E:Env}(C:Ck E)
include C
theorem y0d{H:AHeap}{v:AVal}(hs:z1g v=true/\same v v=true) :z0f E 177 [v,.int .i64 (.ofNat 200)] H (.func 234 [] [.ptr H.nx 0,.ptr H.nx.succ 0]) ((H.new (.cells [v] false false)).2.new (.cells [.int .i64 (.ofNat 200)] false false)).2:=by
 refine C.c177.re (by conv=>lhs;reduce) ?_
 simp(maxDischargeDepth:=9)only[auX,hs,eq_false (show ¬ 200<1 by omega)]
theorem q2z{lp a b:Pos}{v:AVal}{n:Nat}{cs:List AVal}{J:Nat->AHeap->Prop}(hJ:∀ j H,J j H->PT.get a H.t=some (.cells [v] false false)/\PT.get b H.t=some (.cells [.int .i64 (.ofNat 200)] false false)/\Rd 1 H v n cs)(hr:∀ j H w,J j H->200*j<n->Rd 1 H w (min 200 (n-200*j)) ((cs.drop (200*j)).take (min 200 (n-200*j)))->(∀ p,blk w p->blk v p)->∃ H',j0i E lp [w] H true H'/\J (j+1) H'){H:AHeap}(h0:J 0 H)(hn:n<=1000000) :∃ r H',z7r E 234 [.yld lp,.ptr a 0,.ptr b 0] H r H'/\J ((n+199)/200) H':=by
 refine C.c234.fr (by conv=>lhs;reduce) ?_
 simp(maxDischargeDepth:=9)only[auX]
 refine W.loopI (fun k t H'=>∃ j,j+k=(n+199)/200/\PT.get .h t=some (.yld lp)/\PT.get (.o .h) t=some (.ptr a 0)/\PT.get (.i .h) t=some (.ptr b 0)/\PT.get (.i (.o .h)) t=some (.int .i64 (.ofNat (200*j)))/\J j H') ?_ ((n+199)/200) _ _ ⟨0,by omega,rfl,rfl,rfl,rfl,h0⟩
 rintro k t H' ⟨j,hj,t0,t1,t2,t4,hh⟩
 obtain⟨g1,g2,R⟩:=hJ j H' hh
 have lv:∀ H2,fLen H2 1 v=some (.int .i64 (.ofNat n)):=fun _=>R.len
 have sv:=And.intro R.scal R.same
 by_cases hk:k=0
 .obtain rfl:j=(n+199)/200:=by omega
  simp(maxDischargeDepth:=9)only[auX,↓reduceIte,t1,t4,hl_g g1,lv,eq_false (show ¬ 200*((n+199)/200)<n by omega)]
  exact hh
 .have hlt:200*j<n:=by omega
  obtain⟨w1,r1,_,_,_,s1⟩:=j6y R (a:=200*j) (b:=n) (by omega) lr (by omega)
  have l1:∀ H2,fLen H2 1 w1=some (.int .i64 (.ofNat (n-200*j))):=fun _=>r1.len
  have c1:=And.intro r1.scal r1.same
  obtain⟨w2,r2,b2,s2⟩:=q57 R (a:=200*j) (b:=200*j+min 200 (n-200*j)) (by omega) (by omega)
  rw[Nat.add_sub_cancel_left]at r2
  have c2:=And.intro r2.scal r2.same
  obtain⟨H2,c,h2⟩:=hr j H' w2 hh hlt r2 b2
  obtain⟨g1',g2',_⟩:=hJ _ _ h2
  simp(maxDischargeDepth:=9)only[auX,t0,t1,t2,t4,hl_g g1,hl_g g2,lv,hlt,s1 rfl,l1,y4g,z0o (i:=200*j) (k:=min 200 (n-200*j)) (by omega),s2,q6y c,hl_g g2',z0o (i:=200*j) (k:=200) (by omega)]
  exact⟨k-1,by omega,j+1,by omega,rfl,h2⟩
theorem W.chunks{f:AOpnd}{ps:List Pos}{sg bd:ACode}{t:PT AVal}{ds:List ADef}{Q:z2i}{a b:Pos}{v:AVal}{n:Nat}{cs:List AVal}{H:AHeap}(hf:f.ev t=.func 234 [] [.ptr a 0,.ptr b 0])(hn:n<=1000000) (h:∀ L Y,L=(⟨.ready,.none,t,ps,sg,bd,H.nx⟩ :ALoop)->Y=((H.new (.dfr true)).2.new (.loop L)).2->∃ J:Nat->AHeap->Prop,J 0 Y ∧
  (∀ j H',J j H'->PT.get a H'.t=some (.cells [v] false false)/\PT.get b H'.t=some (.cells [.int .i64 (.ofNat 200)] false false)/\Rd 1 H' v n cs/\PT.get H.nx.succ H'.t=some (.loop L)) ∧
  (∀ j H' w,J j H'->200*j<n->Rd 1 H' w (min 200 (n-200*j)) ((cs.drop (200*j)).take (min 200 (n-200*j)))->(∀ p,blk w p->blk v p)->∃ H2,j0i E H.nx.succ [w] H' true H2/\J (j+1) H2) ∧
  ∀ H',J ((n+199)/200) H'->Q .normal ⟨t,.mark H.nx::ds⟩ (H'.kill H.nx.succ)) :W E (.rangeFunc f ps sg bd) none ⟨t,ds⟩ H Q:=by
 obtain⟨J,h0,hJ,hr,hQ⟩:=h _ _ rfl rfl
 obtain⟨r,h3,hc,hj⟩:=q2z C (fun j H' h=>⟨(hJ j H' h).1,(hJ j H' h).2.1,(hJ j H' h).2.2.1⟩) hr h0 hn
 exact W.rangeF hf ⟨r,h3,hc,_,(hJ _ _ hj).2.2.2,.inl ⟨rfl,rfl,hQ h3 hj⟩⟩
theorem q1x{H:AHeap}{v:AVal}{n:Nat}(h:Rd 1 H v (cutL n).length (cutL n))(hn:n<=2000) :∃ p H',z0f E 128 [.int .i64 (.ofNat n),v] H (.tup [.ptr p 0,.int .i64 (.ofNat 0)]) H'/\Keep H.nx.toNat H H':=by
 have k0:Keep H.nx.toNat H (H.new (.cells (repl [.int .i64 (.ofNat 0)] (cutL n).length) false false)).2:=z0d
 have cl:(cutL n).length<=1:=by unfold cutL;split<;>simp
 have as':z1l (cutL n)=true:=by unfold cutL;split<;>rfl
 obtain⟨w,H1,a1,G1,K1⟩:=y3h (by':=8) (h.keep k0 lr).src rfl as'
 have lv:∀ H2,fLen H2 1 v=some (.int .i64 (.ofNat (cutL n).length)):=fun _=>h.len
 have sw:=And.intro G1.1.rd.scal G1.1.rd.same
 have sv:=And.intro h.scal h.same
 suffices hh:∃ r H',z0f E 128 [.int .i64 (.ofNat n),v] H r H'/\(∃ p,r=.tup [.ptr p 0,.int .i64 (.ofNat 0)]/\Keep H.nx.toNat H H')from by
  obtain⟨_,H',hc,p,rfl,k⟩:=hh
  exact⟨p,H',hc,k⟩
 refine C.c128.rr (by conv=>lhs;reduce) ?_
 simp(maxDischargeDepth:=9)only[auX,bq,eq_false (show ¬ n<0 by omega),eq_false (show ¬ 16777216<n by omega),lv]
 refine W.loopI (fun k t H2=>∃ i,i+k=(cutL n).length/\H2=H/\PT.get .h t=some (.int .i64 (.ofNat n))/\PT.get (.o .h) t=some (v)/\PT.get (.o (.o (.o (.o .h)))) t=some (v)/\PT.get (.i (.o (.o (.o .h)))) t=some (.int .i64 (.ofNat (cutL n).length))/\PT.get (.o (.i (.o (.o .h)))) t=some (.int .i64 (.ofNat i))/\PT.get (.i (.i .h)) t=some (.int .i64 (.ofNat (if i=0 then 0 else n)))) ?_ (cutL n).length _ _ ⟨0,by omega,rfl,rfl,rfl,rfl,rfl,rfl,rfl⟩
 rintro k t H2 ⟨i,hi,rfl,t0,t1,t15,t16,t17,t6⟩
 by_cases hk:k=0
 .obtain rfl:i=(cutL n).length:=by omega
  have e:(if(cutL n).length=0 then 0 else n)=n:=by
   unfold cutL
   by_cases h0:n=0
   .subst h0;rfl
   .simp[h0]
  rw[e]at t6
  simp(maxDischargeDepth:=9)only[auX,bq,↓reduceIte,t0,t1,t16,t17,t6,lv,eq_false (Nat.lt_irrefl (cutL n).length),eq_false (show ¬ 1000<(cutL n).length by omega),j2w (bytes:=8) (n:=0) (c:=(cutL n).length) ⟨by omega,by omega,by omega⟩,z0r a1,sw]
  exact⟨_,rfl,K1.trans (z0d.mono K1.nx)⟩
 .have h0:n≠0:=fun h0=>by subst h0;simp[cutL]at hi;omega
  have hl:=z60 h0
  obtain⟨rfl,rfl⟩ :i=0/\k=1:=by omega
  rw[if_pos rfl]at t6
  obtain⟨b,o,i1,i2⟩:=Rd.at1 h (i:=0) (x:=.int .i64 (.ofNat n)) (by simp[cutL,h0])
  simp(maxDischargeDepth:=9)only[auX,zA,t0,t1,t15,t16,t17,t6,hl,eq_true (show 0<1 by omega),i1,i2,eq_false (show ¬ n<=0 by omega),z0o (i:=0) (k:=1) (by omega)]
  exact⟨0,by omega,1,by omega,rfl,rfl⟩
theorem k1i{H:AHeap}{v w:AVal}{uss vss:List (List Nat)}(h1:LR H v uss)(h2:LR H w vss)(hl:uss.length<=1000000) :z0f E 125 [v,w,.func 124 [] []] H (.bool (decide (uss=vss))) H:=by
 obtain⟨xs,rfl,rx,bx⟩:=h1
 obtain⟨ys,rfl,ry,by'⟩:=h2
 have lx:∀ H2,fLen H2 1 v=some (.int .i64 (.ofNat xs.length)):=fun _=>rx.len
 have ly:∀ H2,fLen H2 1 w=some (.int .i64 (.ofNat ys.length)):=fun _=>ry.len
 rw[List.length_map]at hl
 have sx:=And.intro rx.scal rx.same
 suffices hh:∃ r H2,z0f E 125 [v,w,.func 124 [] []] H r H2/\(r=.bool (decide (xs.map (·.2)=ys.map (·.2)))/\H2=H)from by
  obtain⟨_,_,hc,rfl,rfl⟩:=hh
  exact hc
 refine C.c125.rr (by conv=>lhs;reduce) ?_
 by_cases hxy:xs.length=ys.length
 .simp(maxDischargeDepth:=9)only[auX,lx,ly,eq_true hxy]
  refine W.loopI (fun k t H2=>∃ i,i+k=xs.length/\H2=H/\(∀ j (h1:j<xs.length) (h2:j<ys.length),j<i->xs[j].2=ys[j].2)/\PT.get (.o .h) t=some (w)/\PT.get (.i .h) t=some (.func 124 [] [])/\PT.get (.o (.o (.o (.o .h)))) t=some (v)/\PT.get (.i (.o (.o (.o .h)))) t=some (.int .i64 (.ofNat xs.length))/\PT.get (.o (.i (.o (.o .h)))) t=some (.int .i64 (.ofNat i))) ?_ xs.length _ _ ⟨0,by omega,rfl,fun j _ _ h=>by omega,rfl,rfl,rfl,rfl,rfl⟩
  rintro k t H2 ⟨i,hi,rfl,hj,t1,t2,t15,t16,t17⟩
  by_cases hk:k=0
  .obtain rfl:i=xs.length:=by omega
   have e:xs.map (·.2)=ys.map (·.2):=by
    apply List.ext_getElem (by simpa using hxy)
    intro j a b
    rw[List.getElem_map,List.getElem_map]
    exact hj j (by simpa using a) (by simpa using b) (by simpa using a)
   simp(maxDischargeDepth:=9)only[auX,↓reduceIte,t16,t17,eq_false (Nat.lt_irrefl xs.length)]
   rw[e]
   simp
  .have hx:i<xs.length:=by omega
   have hy:i<ys.length:=by omega
   obtain⟨p,o,i1,i2⟩:=Rd.at1 rx (i:=i) (x:=xs[i].1) (by simp[hx])
   obtain⟨q,u,j1,j2⟩:=Rd.at1 ry (i:=i) (x:=ys[i].1) (by simp[hy])
   have c:=y9k C (bx _ (List.getElem_mem hx)) (by' _ (List.getElem_mem hy))
   rw[z1j]at c
   have c1:=(bx _ (List.getElem_mem hx)).sc
   have c2:=(by' _ (List.getElem_mem hy)).sc
   by_cases he:xs[i].2=ys[i].2
   .rw[decide_eq_true he]at c
    simp(maxDischargeDepth:=9)only[auX,t1,t2,t15,t16,t17,hx,i1,i2,j1,j2,j9g (first:=[]) (mid:=[xs[i].1,ys[i].1]) (caps:=[]) c,z0o (i:=i) (k:=1) (by omega)]
    refine⟨k-1,by omega,i+1,by omega,fun j a b hji=>?_,rfl⟩
    by_cases ej:j=i
    .subst ej;exact he
    .exact hj j a b (by omega)
   .rw[decide_eq_false he]at c
    simp(maxDischargeDepth:=9)only[auX,t1,t2,t15,t16,t17,hx,i1,i2,j1,j2,j9g (first:=[]) (mid:=[xs[i].1,ys[i].1]) (caps:=[]) c]
    have:¬ xs.map (·.2)=ys.map (·.2):=fun e=>he (by
     have:=congrArg (fun l=>l[i]?) e
     simpa[hx,hy]using this)
    simp[this]
 .simp(maxDischargeDepth:=9)only[auX,lx,ly,eq_false hxy]
  have:¬ xs.map (·.2)=ys.map (·.2):=fun e=>hxy (by simpa using congrArg List.length e)
  simp[this]
end
theorem k19:z0l .add (.int .i64 (.ofNat 0)) (.int .i64 (.ofNat 0))=some (.int .i64 (.ofNat 0)):=rfl
section
variable{E:Env}(C:Ck E)
include C
theorem q4n{H:AHeap}{vc vs vd:AVal}{n crc:Nat}(M:Mf H vc vs vd n crc)(hn:n<=2000) :∃ H',z0f E 347 [.agg (mfc n vc vs vd)] H (.bool true) H'/\Keep H.nx.toNat H H':=by
 have k1:Keep H.nx.toNat H (H.new (.cells (mfc n vc vs vd) false false)).2:=z0d
 have l1:H.nx.toNat<(H.new (.cells (mfc n vc vs vd) false false)).2.nx.toNat:=z0h
 obtain⟨p,H2,c2,K2⟩:=q1x C (M.keep k1 lr).c hn
 have g2:PT.get H.nx H2.t=some (.cells (mfc n vc vs vd) false false):=(K2.get H.nx l1).trans z0i
 have kk:=k1.trans (K2.mono (Nat.le_of_lt l1))
 have n2:=K2.nx
 have M2:=M.keep kk lr
 have sc:=M.sc
 have ln:=M2.len
 suffices hh:∃ r H',z0f E 347 [.agg (mfc n vc vs vd)] H r H'/\(r=.bool true/\Keep H.nx.toNat H H')from by
  obtain⟨_,_,hc,rfl,k⟩:=hh
  exact⟨_,hc,k⟩
 refine C.c347.rr (by conv=>lhs;reduce) ?_
 simp(maxDischargeDepth:=9)only[auX,bq,Nat.reduceLT,zA,aZ,mfc,z0c c2,hl_g g2,ln]
 refine W.loopI (fun k t H'=>∃ i,i+k=(cutL n).length/\Keep H2.nx.toNat H2 H'/\PT.get (.o .h) t=some (.ptr H.nx 0)/\PT.get (.o (.i (.i (.i (.o .h))))) t=some (vs)/\PT.get (.i (.i (.i (.i (.o .h))))) t=some (.int .i64 (.ofNat (cutL n).length))/\PT.get (.o (.o (.o (.o (.i .h))))) t=some (.int .i64 (.ofNat i))/\PT.get (.o (.i .h)) t=some (.int .i64 (.ofNat (if i=0 then 0 else n)))) ?_ (cutL n).length _ _ ⟨0,by omega,Keep.refl _ _,rfl,rfl,rfl,rfl,rfl⟩
 rintro k t H' ⟨i,hi,K,t1,t45,t46,t47,t5⟩
 have g3:=(K.get H.nx (by omega)).trans g2
 by_cases hk:k=0
 .obtain rfl:i=(cutL n).length:=by omega
  simp(maxDischargeDepth:=9)only[auX,↓reduceIte,t46,t47,eq_false (Nat.lt_irrefl (cutL n).length)]
  exact kk.trans (K.mono (by omega))
 .have h0:n≠0:=fun h0=>by subst h0;simp[cutL]at hi;omega
  have hl:=z60 h0
  obtain⟨rfl,rfl⟩ :i=0/\k=1:=by omega
  rw[if_pos rfl]at t5
  have M3:=M2.keep K lr
  obtain⟨b,o,x1,xK⟩:=M3.shK (by omega)
  obtain⟨x2,x3,x4⟩:=xK H' (Keep.refl _ _)
  have xn:z0t H' b o 3=some [.int .i64 (.ofNat 41),.int .u32 (.ofNat crc),.int .i64 (.ofNat 0)]:=by
   have h3:=M3.s
   rw[hl,show shL n crc=[.int .i64 (.ofNat 41),.int .u32 (.ofNat crc),.int .i64 (.ofNat 0)]by simp[shL,h0]]at h3
   obtain⟨b',o',y1,y2,_⟩:=h3.at (i:=0) (by omega)
   rw[x1]at y1
   cases y1
   exact y2
  obtain⟨A,hA⟩ :∃ A,A=(H'.new (.cells [.int .i64 (.ofNat 41),.int .u32 (.ofNat crc),.int .i64 (.ofNat 0)] false false)).2:=⟨_,rfl⟩
  have kA:Keep H'.nx.toNat H' A:=by rw[hA];exact z0d
  have gA:PT.get H'.nx A.t=some (.cells [.int .i64 (.ofNat 41),.int .u32 (.ofNat crc),.int .i64 (.ofNat 0)] false false):=by rw[hA];exact z0i
  have nK:=K.nx
  have g4:=(kA.get H.nx (by omega)).trans g3
  have M4:=M3.keep kA lr
  obtain⟨cb,co,y1,y2⟩:=M4.cut (by omega)
  simp(maxDischargeDepth:=9)only[auX,Nat.reduceAdd,zA,t45,t46,t47,hl,eq_true (show 0<1 by omega),x1,xn]
  rw[<-hA]
  refine W.loopI (fun k t H4=>∃ j,j+k=n/\A=H4/\PT.get (.o .h) t=some (.ptr H.nx 0)/\PT.get (.o (.i .h)) t=some (.int .i64 (.ofNat j))/\PT.get (.i (.i .h)) t=some (.int .i64 (.ofNat 0))/\PT.get (.o (.o (.o .h))) t=some (.ptr H'.nx 0)/\PT.get (.i (.o (.o .h))) t=some (.int .i64 (.ofNat 0))/\PT.get (.o (.i (.i (.i (.o .h))))) t=some (vs)/\PT.get (.i (.i (.i (.i (.o .h))))) t=some (.int .i64 (.ofNat 1))/\PT.get (.o (.o (.o (.o (.i .h))))) t=some (.int .i64 (.ofNat 0))) ?_ n _ _ ⟨0,by omega,rfl,by simp(maxDischargeDepth:=9)only[auX,t1],by simp(maxDischargeDepth:=9)only[auX,t5],by simp(maxDischargeDepth:=9)only[auX],by simp(maxDischargeDepth:=9)only[auX],by simp(maxDischargeDepth:=9)only[auX],by simp(maxDischargeDepth:=9)only[auX,t45],by simp(maxDischargeDepth:=9)only[auX,t46,hl],by simp(maxDischargeDepth:=9)only[auX,t47]⟩
  rintro k t H4 ⟨j,hj,rfl,t1,t5,t6,t7,t8,t45,u46,t47⟩
  by_cases hk2:k=0
  .obtain rfl:j=n:=by omega
   simp(maxDischargeDepth:=9)only[auX,bq,↓reduceIte,zA,aZ,t1,t5,t6,t7,t8,t45,u46,t47,hl_g g4,hl_g gA,y1,y2,eq_false (Nat.lt_irrefl j),z0c (j7v C (H:=A) (m:=41) (by omega)),z0c (j7v C (H:=A) (m:=0) (by omega)),z0o (i:=0) (k:=1) (by omega)]
   exact⟨0,by omega,1,by omega,K.trans (kA.mono nK),rfl,rfl⟩
  .obtain⟨b2,o2,d1,d2⟩:=M4.deg (show j<n by omega)
   simp(maxDischargeDepth:=9)only[auX,bq,Nat.reduceLT,zA,t1,t5,t6,t7,t8,t45,u46,t47,hl_g g4,y1,y2,d1,d2,eq_true (show j<n by omega),eq_false (show ¬ n<=0 by omega),k19,z0o (i:=j) (k:=1) (by omega)]
   exact⟨k-1,by omega,j+1,by omega,rfl⟩
end
end Go.Am
