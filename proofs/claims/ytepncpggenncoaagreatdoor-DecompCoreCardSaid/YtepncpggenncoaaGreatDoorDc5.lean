import Derived.Test.YtepncpggenncoaaGreatDoorDc4
import Derived.Test.YtepncpggenncoaaGreatDoorDc2
set_option linter.all false
set_option maxRecDepth 20000
set_option maxHeartbeats 8000000
namespace Go.Am
open Go Go.Proofs
theorem j8l:∀ us:List Nat,bytesOf (z0b us)=some us
 | []=>rfl
 | u::us=>by simp only[z0b,bytesOf,j8l us]
theorem By.str{H:AHeap}{v:AVal}{us:List Nat}(h:By H v us) :z2p H v=some (.str us):=by
 obtain⟨⟨h0,⟨rfl,h1⟩ | ⟨b,o,c,z,rfl,hl,_⟩⟩,hu⟩:=h
 .have:us=[]:=List.eq_nil_of_length_eq_zero h1
  rw[this];rfl
 .rw[Nat.mul_one]at hl
  unfold z2p
  simp only[hl,j8l]
  have:us.all (fun n=>Nat.blt n 256)=true:=by
   rw[List.all_eq_true]
   intro x hx
   rw[Nat.blt_eq];exact hu x hx
  rw[this]
theorem By.sub{H:AHeap}{v:AVal}{us:List Nat}(h:By H v us){a b:Nat}(ha:a<=b)(hb:b<=us.length)(h0:0<us.length) :∃ w,By H w ((us.drop a).take (b-a))/\(∀ p,blk w p->blk v p)/\(∀ {t:PT AVal} {x y:AOpnd},x.ev t=.int .i64 (.ofNat a)->y.ev t=.int .i64 (.ofNat b)->z0w t (.sl 1) v (some x) (some y) none=some w)/\(a=0->∀ {t:PT AVal} {y:AOpnd},y.ev t=.int .i64 (.ofNat b)->z0w t (.sl 1) v none (some y) none=some w)/\(b=us.length->∀ {t:PT AVal} {x:AOpnd},x.ev t=.int .i64 (.ofNat a)->z0w t (.sl 1) v (some x) none none=some w):=by
 obtain⟨w,h1,h2⟩:=j6y h.1 ha hb h0
 refine⟨w,⟨?_,fun u hu=>h.2 u (List.mem_of_mem_drop (List.mem_of_mem_take hu))⟩,h2⟩
 rw[z9q,z3b]at h1
 have:((us.drop a).take (b-a)).length=b-a:=by simp;omega
 rw[this];exact h1
theorem By.other{H H':AHeap}{v:AVal}{us:List Nat}(h:By H v us)(hg:∀ p,blk v p->PT.get p H'.t=PT.get p H.t)(hn:H.nx.toNat<=H'.nx.toNat) :By H' v us:=⟨h.1.other hg hn,h.2⟩
theorem Bo.other{N:Nat}{H H':AHeap}{v:AVal}{us:List Nat}(h:Bo N H v us)(hg:∀ p,blk v p->PT.get p H'.t=PT.get p H.t)(hn:H.nx.toNat<=H'.nx.toNat) :Bo N H' v us:=⟨⟨h.1.1.other hg hn,h.1.2⟩,h.2⟩
theorem Bo.mono{N M:Nat}{H:AHeap}{v:AVal}{us:List Nat}(h:Bo N H v us)(hm:M<=N) :Bo M H v us:=⟨h.1.mono hm,h.2⟩
theorem y9e{us:List Nat}(h:12+flen us<=us.length) :fdec us=if(flen us<=1024/\z34 (us.getD 1 0))/\us.take (12+flen us)=fenc (us.getD 1 0) ((us.drop 8).take (flen us))then some (us.getD 1 0,(us.drop 8).take (flen us))else none:=by
 unfold fdec
 by_cases c:(flen us<=1024/\z34 (us.getD 1 0))/\us.take (12+flen us)=fenc (us.getD 1 0) ((us.drop 8).take (flen us))
 .rw[if_pos c,if_pos ⟨h,c.1.1,c.1.2,c.2⟩]
 .rw[if_neg c,if_neg (fun q=>c ⟨⟨q.2.1,q.2.2.1⟩,q.2.2.2⟩)]
theorem z7f{us:List Nat}(h:us.length<12+flen us) :fdec us=none:=by
 unfold fdec
 rw[if_neg (fun q=>by omega)]
theorem z4o{us:List Nat}{i:Nat}(h:i<us.length) :us.getD i 0=us[i]:=by simp[List.getD,h]
def DecF(N:Nat)(us:List Nat)(r:AVal)(H':AHeap) :Prop :=
 (fdec us=none/\r=.tup [.agg [.int .i64 (.ofNat 0),.snil],.int .i64 (.ofNat 0),.int .i64 (.ofNat 32)])\/∃ k p w,fdec us=some (k,p)/\r=.tup [.agg [.int .i64 (.ofNat k),w],.int .i64 (.ofNat (12+p.length)),.int .i64 (.ofNat 0)]/\Bo N H' w p
section
variable{E:Env}(C:Ck E)
include C
theorem q5h{H:AHeap}{v:AVal}{us:List Nat}(h:By H v us)(hn:us.length<=1000000) :∃ r H',z0f E 224 [v] H r H'/\DecF H.nx.toNat us r H'/\Keep H.nx.toNat H H':=by
 have hsc:=h.sc
 have k0:Keep H.nx.toNat H (H.new (.cells [.int .i64 (.ofNat 0),.snil] false false)).2:=z0d
 by_cases h12:us.length<12
 .refine⟨_,_,?_,.inl ⟨z7f (by omega),rfl⟩,k0⟩
  refine C.c224.re (by conv=>lhs;reduce) ?_
  simp(maxDischargeDepth:=9)only[auX,Nat.reduceAdd,zA,hsc,h12]
 have l0:H.nx.toNat<(H.new (.cells [.int .i64 (.ofNat 0),.snil] false false)).2.nx.toNat:=z0h
 have e0:(H.new (.cells [.int .i64 (.ofNat 0),.snil] false false)).2.nx=H.nx.succ:=rfl
 have g0:PT.get H.nx (H.new (.cells [.int .i64 (.ofNat 0),.snil] false false)).2.t=some (.cells [.int .i64 (.ofNat 0),.snil] false false):=z0i
 have y0:=h.keep k0 lr
 obtain⟨p1,o1,i1,st1⟩:=h.atS (i:=1) (by omega)
 have j1:=st1 _ k0
 obtain⟨p2,o2,i2,st2⟩:=h.atS (i:=2) (by omega)
 have j2:=st2 _ k0
 obtain⟨p3,o3,i3,st3⟩:=h.atS (i:=3) (by omega)
 have j3:=st3 _ k0
 have u1:=h.2 _ (List.getElem_mem (show 1<us.length by omega))
 have u2:=h.2 _ (List.getElem_mem (show 2<us.length by omega))
 have u3:=h.2 _ (List.getElem_mem (show 3<us.length by omega))
 have hfl:flen us=us[2]*256+us[3]:=by unfold flen;rw[z4o (by omega),z4o (by omega)]
 have a1:=j0l (i:=us[2]) (k:=256) (by omega)
 have a2:=z0o (i:=us[2]*256) (k:=us[3]) (by omega)
 rw[<-hfl]at a2
 have a3:=z0o (i:=12) (k:=flen us) (by omega)
 have a4:=z0o (i:=8) (k:=flen us) (by omega)
 have ww:=w64 (i:=us[1]) (by omega)
 have w2:=w64 (i:=us[2]) (by omega)
 have w3:=w64 (i:=us[3]) (by omega)
 by_cases hs:us.length<12+flen us
 .refine⟨_,_,?_,.inl ⟨z7f hs,rfl⟩,k0⟩
  refine C.c224.re (by conv=>lhs;reduce) ?_
  simp(maxDischargeDepth:=9)only[auX,Nat.reduceAdd,zA,hsc,h12,i2,j2,i3,j3,w2,w3,a1,a2,a3,hs]
 have hs':12+flen us<=us.length:=by omega
 generalize hH0:(H.new (.cells [.int .i64 (.ofNat 0),.snil] false false)).2=H0 at *
 have k1:Keep H0.nx.toNat H0 (H0.new (.cells [.int .i64 (.ofNat 0),.snil] false false)).2:=z0d
 have g1:PT.get H0.nx (H0.new (.cells [.int .i64 (.ofNat 0),.snil] false false)).2.t=some (.cells [.int .i64 (.ofNat 0),.snil] false false):=z0i
 have l1:H0.nx.toNat<(H0.new (.cells [.int .i64 (.ofNat 0),.snil] false false)).2.nx.toNat:=z0h
 rw[e0]at k1 g1 l1
 have l2:H0.nx.toNat=H.nx.succ.toNat:=by rw[e0]
 rw[l2]at l0
 have y1:=y0.keep k1 (by rw[e0];exact lr)
 generalize hH1:(H0.new (.cells [.int .i64 (.ofNat 0),.snil] false false)).2=H1 at *
 obtain⟨s,s1,s2,s3,_⟩:=y1.sub (a:=8) (b:=8+flen us) (by omega) (by omega) (by omega)
 rw[show 8+flen us-8=flen us by omega]at s1
 have pl:((us.drop 8).take (flen us)).length=flen us:=by simp;omega
 obtain⟨w,H2,c2,G2,K2⟩:=z62 C s1.1 (by omega)
 have n2:=K2.nx
 have g2:PT.get H.nx.succ H2.t=some (.cells [.int .i64 (.ofNat 0),.snil] false false):=by rw[K2.get _ l1];exact g1
 have g02:PT.get H.nx H2.t=some (.cells [.int .i64 (.ofNat 0),.snil] false false):=by rw[K2.get _ (by omega),k1.get _ l0];exact g0
 have j12:=st1 _ ((k0.trans (k1.mono (by omega))).trans (K2.mono (by omega)))
 have ne:H.nx≠H.nx.succ:=fun e=>by have:=congrArg Pos.toNat e;omega
 have bw:∀ p,blk w p->H1.nx.toNat<=p.toNat:=G2.2
 have W2:Bo H1.nx.toNat H2 w ((us.drop 8).take (flen us)):=⟨G2,s1.2⟩
 have W3:Bo H1.nx.toNat (H2.upd H.nx.succ (.cells [.int .i64 (.ofNat us[1]),w] false false)) w ((us.drop 8).take (flen us)):=W2.other (fun p hp=>z0a (fun e=>by have:=bw p hp;rw[<-e]at this;omega)) lr
 have y3:By (H2.upd H.nx.succ (.cells [.int .i64 (.ofNat us[1]),w] false false)) v us:=(y1.keep K2 lr).other (fun p hp=>z0a (fun e=>by have:=h.1.blk_lt p hp;rw[<-e]at this;omega)) lr
 have hst:=z0z g2 (o:=0) (vs:=[.int .i64 (.ofNat us[1]),w]) (by rw[z0p z5y,z0p W2.by.sc.2.1];rfl) rfl
 have g3:PT.get H.nx.succ (H2.upd H.nx.succ (.cells [.int .i64 (.ofNat us[1]),w] false false)).t=some (.cells [.int .i64 (.ofNat us[1]),w] false false):=z0q
 have g03:PT.get H.nx (H2.upd H.nx.succ (.cells [.int .i64 (.ofNat us[1]),w] false false)).t=some (.cells [.int .i64 (.ofNat 0),.snil] false false):=by rw[z0a (fun e=>ne e.symm)];exact g02
 have wsc:=W2.by.sc
 have kk3:Keep H.nx.toNat H (H2.upd H.nx.succ (.cells [.int .i64 (.ofNat us[1]),w] false false)):=((k0.trans (k1.mono (by omega))).trans (K2.mono (by omega))).trans (z0s (by omega))
 have n3:(H2.upd H.nx.succ (.cells [.int .i64 (.ofNat us[1]),w] false false)).nx.toNat=H2.nx.toNat:=rfl
 have hfd:=y9e hs'
 rw[z4o (show 1<us.length by omega)]at hfd
 have n4:∀ H4,Keep (H2.upd H.nx.succ (.cells [.int .i64 (.ofNat us[1]),w] false false)).nx.toNat (H2.upd H.nx.succ (.cells [.int .i64 (.ofNat us[1]),w] false false)) H4->H2.nx.toNat<=H4.nx.toNat/\PT.get H.nx.succ H4.t=some (.cells [.int .i64 (.ofNat us[1]),w] false false)/\PT.get H.nx H4.t=some (.cells [.int .i64 (.ofNat 0),.snil] false false)/\By H4 v us/\Bo H1.nx.toNat H4 w ((us.drop 8).take (flen us))/\Keep H.nx.toNat H H4:=fun H4 K4 =>
  ⟨K4.nx,by rw[K4.get _ (by omega)];exact g3,by rw[K4.get _ (by omega)];exact g03,y3.keep K4 lr,W3.keep K4 lr,kk3.trans (K4.mono (by omega))⟩
 have fin:∀ H4 x,Keep (H2.upd H.nx.succ (.cells [.int .i64 (.ofNat us[1]),w] false false)).nx.toNat (H2.upd H.nx.succ (.cells [.int .i64 (.ofNat us[1]),w] false false)) H4->Keep H.nx.toNat H (H4.upd H.nx x):=fun H4 x K4=>(n4 H4 K4).2.2.2.2.2.trans (z0s lr)
 by_cases hk:z34 us[1]/\((us.drop 8).take (flen us)).length<=1024
 .obtain⟨c,H4,c4,B4,K4⟩:=q5e C W3.by hk.1 hk.2
  obtain⟨m4,g4,g04,y4,W4,kk4⟩:=n4 H4 K4
  obtain⟨s',t1,_,_,t3,_⟩:=y4.sub (a:=0) (b:=12+flen us) (by omega) hs' (by omega)
  rw[List.drop_zero,Nat.sub_zero]at t1
  have s5:=fun {t:PT AVal} {y:AOpnd}=>t3 rfl (t:=t) (y:=y)
  have cs:=z9z C B4.by.str t1.str
  rw[z1j]at cs
  by_cases he:fenc us[1] ((us.drop 8).take (flen us))=us.take (12+flen us)
  .rw[decide_eq_true he]at cs
   have hst0:=z0z g04 (o:=0) (vs:=[.int .i64 (.ofNat us[1]),w]) (by rw[z0p z5y,z0p wsc.2.1];rfl) rfl
   refine⟨_,H4.upd H.nx (.cells [.int .i64 (.ofNat us[1]),w] false false),?_,.inr ⟨us[1],(us.drop 8).take (flen us),w,by rw[hfd,if_pos ⟨⟨by rw[<-pl];exact hk.2,hk.1⟩,he.symm⟩],by rw[pl],W4.other (fun p hp=>z0a (fun e=>by have:=bw p hp;rw[<-e]at this;omega)) lr |>.mono (by omega)⟩,fin H4 _ K4⟩
   subst hH1
   subst hH0
   refine C.c224.re (by conv=>lhs;reduce) ?_
   simp(maxDischargeDepth:=9)only[auX,bq,reduceCtorEq,Nat.reduceAdd,zA,Nat.reduceAnd,hsc,h12,i1,j1,i2,j2,i3,j3,ww,w2,w3,a1,a2,a3,a4,hs,s3,wsc,j12,z0j c2,hst,hn_g g3,z0c c4,hn_g g4,hst0,z0c cs,s5]
  .rw[decide_eq_false he]at cs
   have hst0:=z0z g04 (o:=0) (vs:=[.int .i64 (.ofNat 0),.snil]) rfl rfl
   refine⟨_,H4.upd H.nx (.cells [.int .i64 (.ofNat 0),.snil] false false),?_,.inl ⟨by rw[hfd,if_neg (fun q=>he q.2.symm)],rfl⟩,fin H4 _ K4⟩
   subst hH1
   subst hH0
   refine C.c224.re (by conv=>lhs;reduce) ?_
   simp(maxDischargeDepth:=9)only[auX,bq,reduceCtorEq,Nat.reduceAdd,zA,Nat.reduceAnd,hsc,h12,i1,j1,i2,j2,i3,j3,ww,w2,w3,a1,a2,a3,a4,hs,s3,wsc,j12,z0j c2,hst,hn_g g3,z0c c4,hst0,z0c cs,s5]
 .obtain⟨e,H4,c4,he,K4⟩:=q2q C W3.by hk (by omega)
  obtain⟨m4,g4,g04,y4,W4,kk4⟩:=n4 H4 K4
  obtain⟨s',t1,_,_,t3,_⟩:=y4.sub (a:=0) (b:=12+flen us) (by omega) hs' (by omega)
  have s5:=fun {t:PT AVal} {y:AOpnd}=>t3 rfl (t:=t) (y:=y)
  have cs:=z9z C (x:=.snil) (us:=[]) (H:=H4) rfl t1.str
  have hst0:=z0z g04 (o:=0) (vs:=[.int .i64 (.ofNat 0),.snil]) rfl rfl
  refine⟨_,H4.upd H.nx (.cells [.int .i64 (.ofNat 0),.snil] false false),?_,.inl ⟨by rw[hfd,if_neg (fun q=>hk ⟨q.1.2,by rw[pl];exact q.1.1⟩)],rfl⟩,fin H4 _ K4⟩
  subst hH1
  subst hH0
  refine C.c224.re (by conv=>lhs;reduce) ?_
  simp(maxDischargeDepth:=9)only[auX,reduceCtorEq,Nat.reduceAdd,zA,Nat.reduceAnd,hsc,h12,i1,j1,i2,j2,i3,j3,ww,w2,w3,a1,a2,a3,a4,hs,s3,wsc,j12,z0j c2,hst,hn_g g3,z0c c4,hst0,z0c cs,s5,eq_false he]
end
def RHas(H:AHeap)(F:Pos)(nm us:List Nat) :Prop:=∃ (files:List (List Nat×Nat)) (dirs:List (List Ent)) (es:List Ent) (np ct:Nat) (S:Pos->Prop) (j x:Nat) (hx:x<files.length),RS H F files (dirs++[es]) np ct S/\es.length<=1000/\dirs.length<=900/\files.length<=900/\np<=900/\ct<=900000/\IsNm nm/\ratF nm es 0=.ofNat j/\(∃ hj:j<es.length,es[j].2=x)/\files[x].1=us/\us.length<=1000000/\∀ u∈us,u<256
theorem RHas.keep{m:Nat}{H H':AHeap}{F:Pos}{nm us:List Nat}(h:RHas H F nm us)(k:Keep m H H')(hm:H.nx.toNat<=m) :RHas H' F nm us:=by
 obtain⟨a,b,c,d,e,f,g,i,j,h,r⟩:=h
 exact⟨a,b,c,d,e,f,g,i,j,h.keep k hm,r⟩
theorem RHas.b{H:AHeap}{F:Pos}{nm us:List Nat}(h:RHas H F nm us) :us.length<=1000000/\∀ u∈us,u<256:=by
 obtain⟨_,_,_,_,_,_,_,_,_,_,_,_,_,_,_,_,_,_,_,r⟩:=h
 exact r
def FrR(N:Nat)(u:List Nat)(r:AVal)(H':AHeap) :Prop :=
 (fdec u=none/\r=.tup [.agg [.int .i64 (.ofNat 0),.snil],.int .i64 (.ofNat 0),.bool false,.int .i64 (.ofNat 90)])\/∃ k p w,fdec u=some (k,p)/\r=.tup [.agg [.int .i64 (.ofNat k),w],.int .i64 (.ofNat (12+p.length)),.bool (decide (12+p.length<u.length)),.int .i64 (.ofNat 0)]/\Bo N H' w p
section
variable{E:Env}(C:Ck E)
include C
theorem y07{H:AHeap}{F:Pos}{nm us:List Nat}(h:RHas H F nm us) :z0f E 115 [.ptr F 0,.str nm] H (.tup [.int .i64 (.ofNat us.length),.int .i64 (.ofNat 0)]) H:=by
 obtain⟨files,dirs,es,np,ct,S,j,x,hx,h,h1,h2,h3,h4,h5,h6,h7,h8,rfl,_⟩:=h
 exact y6b C h h1 h2 h3 h4 h5 h6 h7 h8 hx
theorem y1h{H:AHeap}{F:Pos}{nm us:List Nat}(h:RHas H F nm us)(a n:Nat)(ha:a<=1000000000)(hn:n<=1000000000) :∃ w H',z0f E 116 [.ptr F 0,.str nm,.int .i64 (.ofNat a),.int .i64 (.ofNat n)] H (.tup [w,.int .i64 (.ofNat 0)]) H'/\By H' w ((us.drop a).take n)/\Keep H.nx.toNat H H':=by
 obtain⟨files,dirs,es,np,ct,S,j,x,hx,h,h1,h2,h3,h4,h5,h6,h7,h8,rfl,h9,h10⟩:=h
 obtain⟨w,H',c,r,k⟩:=y6p C h h1 h2 h3 h4 h5 h6 h7 h8 hx h9 a n hn ha
 exact⟨w,H',c,⟨r.1.rd,fun u hu=>h10 u (List.mem_of_mem_drop (List.mem_of_mem_take hu))⟩,k⟩
theorem y2q{H:AHeap}{F:Pos}{nm us:List Nat}(h:RHas H F nm us){a:Nat}(ha:a<=1000000000) :∃ r H',z0f E 289 [.ptr F 0,.str nm,.int .i64 (.ofNat a)] H r H'/\FrR H.nx.toNat (us.drop a) r H'/\Keep H.nx.toNat H H':=by
 have k0:Keep H.nx.toNat H (H.new (.cells [.int .i64 (.ofNat 0),.snil] false false)).2:=z0d
 have g0:PT.get H.nx (H.new (.cells [.int .i64 (.ofNat 0),.snil] false false)).2.t=some (.cells [.int .i64 (.ofNat 0),.snil] false false):=z0i
 have l0:H.nx.toNat<(H.new (.cells [.int .i64 (.ofNat 0),.snil] false false)).2.nx.toNat:=z0h
 obtain⟨wb,H1,c1,B1,K1⟩:=y1h C (h.keep k0 lr) a 1037 ha (by omega)
 have hb:=h.b.1
 obtain⟨r,H2,c2,D2,K2⟩:=q5h C B1 (by simp;omega)
 have n1:=K1.nx
 have n2:=K2.nx
 have g2:PT.get H.nx H2.t=some (.cells [.int .i64 (.ofNat 0),.snil] false false):=by rw[K2.get _ (by omega),K1.get _ l0];exact g0
 have kk:Keep H.nx.toNat H H2:=(k0.trans (K1.mono (by omega))).trans (K2.mono (by omega))
 have hsc:=B1.sc
 rcases D2 with⟨d1,rfl⟩ | ⟨k,p,w,d1,rfl,B2⟩
 .rw[j0v (by omega)]at d1
  have k3:Keep H2.nx.toNat H2 (H2.new (.cells [.int .i64 (.ofNat 0),.snil] false false)).2:=z0d
  have g3:PT.get H.nx (H2.new (.cells [.int .i64 (.ofNat 0),.snil] false false)).2.t=some (.cells [.int .i64 (.ofNat 0),.snil] false false):=by rw[k3.get _ (by omega)];exact g2
  have st:=z0z g3 (o:=0) (vs:=[.int .i64 (.ofNat 0),.snil]) rfl rfl
  refine⟨_,(H2.new (.cells [.int .i64 (.ofNat 0),.snil] false false)).2.upd H.nx (.cells [.int .i64 (.ofNat 0),.snil] false false),?_,.inl ⟨d1,rfl⟩,(kk.trans (k3.mono (by omega))).trans (z0s lr)⟩
  refine C.c289.re (by conv=>lhs;reduce) ?_
  simp(maxDischargeDepth:=9)only[auX,reduceCtorEq,Nat.reduceAdd,zA,z0c c1,z0c c2,st]
 .have hp:=(z1y d1).2.1
  rw[j0v (by omega)]at d1
  have k3:Keep H2.nx.toNat H2 (H2.new (.cells [.int .i64 (.ofNat k),w] false false)).2:=z0d
  have g3:PT.get H.nx (H2.new (.cells [.int .i64 (.ofNat k),w] false false)).2.t=some (.cells [.int .i64 (.ofNat 0),.snil] false false):=by rw[k3.get _ (by omega)];exact g2
  have bs:=B2.by.sc
  have st:=z0z g3 (o:=0) (vs:=[.int .i64 (.ofNat k),w]) (by rw[z0p z5y,z0p bs.2.1];rfl) rfl
  have B3:=B2.keep k3 lr
  have hmore:decide (12+p.length<((us.drop a).take 1037).length)=decide (12+p.length<(us.drop a).length):=by
   rw[List.length_take]
   congr 1
   exact propext ⟨fun h=>by omega,fun h=>by omega⟩
  have bl:∀ q,blk w q->q≠H.nx:=fun q hq e=>by have:=B2.1.2 q hq;rw[e]at this;omega
  refine⟨_,(H2.new (.cells [.int .i64 (.ofNat k),w] false false)).2.upd H.nx (.cells [.int .i64 (.ofNat k),w] false false),?_,.inr ⟨k,p,w,d1,rfl,(B3.other (fun q hq=>z0a (fun e=>bl q hq e.symm)) lr).mono (by omega)⟩,(kk.trans (k3.mono (by omega))).trans (z0s lr)⟩
  refine C.c289.re (by conv=>lhs;reduce) ?_
  simp(maxDischargeDepth:=9)only[auX,Nat.reduceAdd,zA,z0c c1,z0c c2,st,hsc,bs,hmore]
end
abbrev RdC(F:Pos)(nm:List Nat)(at' ct:Nat) :List AVal:=[.ptr F 0,.str nm,.int .i64 (.ofNat at'),.int .i64 (.ofNat ct),.bool false]
def OpR(F:Pos)(nm:List Nat)(N:Nat)(us:List Nat)(r:AVal)(H':AHeap) :Prop :=
 (∃ h q w,fdec us=some (1,h)/\r=.tup [.ptr q 0,w,.int .i64 (.ofNat 0)]/\Bo N H' w h/\PT.get q H'.t=some (.cells (RdC F nm (12+h.length) 0) false false)/\N<=q.toNat/\q.toNat<H'.nx.toNat/\¬ blk w q)\/((∀ h,fdec us≠some (1,h))/\r=.tup [.pnil,.snil,.int .i64 (.ofNat 90)])
def NxR(F:Pos)(nm:List Nat)(N:Nat)(q:Pos)(at' ct:Nat)(u:List Nat)(r:AVal)(H':AHeap) :Prop :=
 (∃ p w,fdec u=some (2,p)/\r=.tup [w,.bool true,.int .i64 (.ofNat 0)]/\Bo N H' w p/\PT.get q H'.t=some (.cells (RdC F nm (at'+(12+p.length)) (ct+1)) false false)) ∨
 (∃ p,fdec u=some (3,p)/\p=b4 ct/\u.length=12+p.length/\r=.tup [.snil,.bool false,.int .i64 (.ofNat 0)]) ∨
 ((∀ p,fdec u≠some (2,p))/\(∀ p,fdec u=some (3,p)->¬ (p=b4 ct/\u.length=12+p.length))/\r=.tup [.snil,.bool false,.int .i64 (.ofNat 90)])
section
variable{E:Env}(C:Ck E)
include C
theorem q61{H:AHeap}{F:Pos}{nm us:List Nat}(h:RHas H F nm us) :∃ r H',z0f E 225 [.ptr F 0,.str nm] H r H'/\OpR F nm H.nx.toNat us r H'/\Keep H.nx.toNat H H':=by
 obtain⟨r,H1,c1,D,K1⟩:=y2q C h (a:=0) (by omega)
 have n1:=K1.nx
 rw[List.drop_zero]at D
 rcases D with⟨d1,rfl⟩ | ⟨k,p,w,d1,rfl,B1⟩
 .have k2:Keep H1.nx.toNat H1 (H1.new (.cells [.int .i64 (.ofNat 0),.snil] false false)).2:=z0d
  refine⟨_,_,?_,.inr ⟨fun h e=>by rw[d1]at e;(cases e),rfl⟩,K1.trans (k2.mono n1)⟩
  refine C.c225.re (by conv=>lhs;reduce) ?_
  simp(maxDischargeDepth:=9)only[auX,reduceCtorEq,Nat.reduceAdd,zA,z0c c1]
 .have bs:=B1.by.sc
  have k2:Keep H1.nx.toNat H1 (H1.new (.cells [.int .i64 (.ofNat k),w] false false)).2:=z0d
  have g2:PT.get H1.nx (H1.new (.cells [.int .i64 (.ofNat k),w] false false)).2.t=some (.cells [.int .i64 (.ofNat k),w] false false):=z0i
  by_cases hk:k=1
  .subst hk
   have k3:Keep _ _ ((H1.new (.cells [.int .i64 (.ofNat 1),w] false false)).2.new (.cells (RdC F nm (12+p.length) 0) false false)).2:=z0d
   have l1:H1.nx.toNat<(H1.new (.cells [.int .i64 (.ofNat 1),w] false false)).2.nx.toNat:=z0h
   refine⟨_,((H1.new (.cells [.int .i64 (.ofNat 1),w] false false)).2.new (.cells (RdC F nm (12+p.length) 0) false false)).2,?_,.inl ⟨p,H1.nx.succ,w,d1,rfl,(B1.keep k2 lr).keep k3 lr,z0i (H:=(H1.new (.cells [.int .i64 (.ofNat 1),w] false false)).2),by rw[Pos.toNat_succ];omega,z0h,fun hb=>?_⟩,(K1.trans (k2.mono n1)).trans (k3.mono (by omega))⟩
   .refine C.c225.re (by conv=>lhs;reduce) ?_
    simp(maxDischargeDepth:=9)only[auX,Nat.reduceAdd,zA,aZ,z0c c1,bs]
   .have:=B1.by.1.blk_lt _ hb
    rw[Pos.toNat_succ]at this;omega
  .refine⟨_,_,?_,.inr ⟨fun h e=>by rw[d1]at e;(cases e);exact hk rfl,rfl⟩,K1.trans (k2.mono n1)⟩
   refine C.c225.re (by conv=>lhs;reduce) ?_
   simp(maxDischargeDepth:=9)only[auX,Nat.reduceAdd,zA,aZ,z0c c1,bs,hk]
theorem q65{B H:AHeap}{F:Pos}{nm us:List Nat}(h:RHas B F nm us)(kb:Keep B.nx.toNat B H){q:Pos}(hq:B.nx.toNat<=q.toNat)(hq2:q.toNat<H.nx.toNat){at' ct:Nat}(hg:PT.get q H.t=some (.cells (RdC F nm at' ct) false false))(ha:at'<=100000000)(hc:ct<=100000000) :
  ∃ r H',z0f E 226 [.ptr q 0] H r H'/\NxR F nm H.nx.toNat q at' ct (us.drop at') r H'/\Keep B.nx.toNat B H'/\H.nx.toNat<=H'.nx.toNat/\(∀ p:Pos,p.toNat<H.nx.toNat->p≠q->PT.get p H'.t=PT.get p H.t):=by
 have k0:Keep H.nx.toNat H (H.new (.cells [.int .i64 (.ofNat 0),.snil] false false)).2:=z0d
 have g0:PT.get H.nx (H.new (.cells [.int .i64 (.ofNat 0),.snil] false false)).2.t=some (.cells [.int .i64 (.ofNat 0),.snil] false false):=z0i
 have l0:H.nx.toNat<(H.new (.cells [.int .i64 (.ofNat 0),.snil] false false)).2.nx.toNat:=z0h
 have hbn:=kb.nx
 obtain⟨r,H1,c1,D,K1⟩:=y2q C ((h.keep kb lr).keep k0 lr) (a:=at') (by omega)
 have n1:=K1.nx
 have hq1:PT.get q H1.t=some (.cells (RdC F nm at' ct) false false):=by rw[K1.get _ (by omega),k0.get _ hq2];exact hg
 have g1:PT.get H.nx H1.t=some (.cells [.int .i64 (.ofNat 0),.snil] false false):=by rw[K1.get _ l0];exact g0
 have hne:H.nx≠q:=fun e=>by rw[<-e]at hq2;omega
 have kk:Keep H.nx.toNat H H1:=k0.trans (K1.mono (by omega))
 have upk:∀ (H2:AHeap) (x y:AObj),Keep H1.nx.toNat (H1.upd H.nx x) H2->Keep B.nx.toNat B (H2.upd q y)/\H.nx.toNat<=(H2.upd q y).nx.toNat/\∀ p:Pos,p.toNat<H.nx.toNat->p≠q->PT.get p (H2.upd q y).t=PT.get p H.t:=fun H2 x y K2=>by
  have n2:H1.nx.toNat<=H2.nx.toNat:=K2.nx
  have e1:∀ p:Pos,p.toNat<H.nx.toNat->PT.get p H2.t=PT.get p H.t:=fun p hp=>by
   rw[K2.get _ (by omega),z0a (fun e=>by rw[e]at hp;omega),kk.get _ hp]
  refine⟨⟨by show _<=H2.nx.toNat;omega,fun p hp=>?_⟩,by show _<=H2.nx.toNat;omega,fun p hp hpq=>?_⟩
  .rw[z0a (fun e=>by rw[e]at hq;omega),e1 _ (by omega),kb.get _ hp]
  .rw[z0a (fun e=>hpq e.symm),e1 _ hp]
 have fin:∀ x,PT.get q (H1.upd H.nx x).t=some (.cells (RdC F nm at' ct) false false):=fun x=>by rw[z0a hne];exact hq1
 rcases D with⟨d1,rfl⟩ | ⟨k,p,w,d1,rfl,B1⟩
 .have st:=z0z g1 (o:=0) (vs:=[.int .i64 (.ofNat 0),.snil]) rfl rfl
  have st2:=z0z (fin (.cells [.int .i64 (.ofNat 0),.snil] false false)) (o:=4) (vs:=[.bool true]) rfl rfl
  obtain⟨u1,u2,u3⟩:=upk (H1.upd H.nx (.cells [.int .i64 (.ofNat 0),.snil] false false)) (.cells [.int .i64 (.ofNat 0),.snil] false false) (.cells [.ptr F 0,.str nm,.int .i64 (.ofNat at'),.int .i64 (.ofNat ct),.bool true] false false) (Keep.refl _ _)
  refine⟨_,_,?_,.inr (.inr ⟨fun p e=>by rw[d1]at e;(cases e),fun p e=>by rw[d1]at e;(cases e),rfl⟩),u1,u2,u3⟩
  refine C.c226.re (by conv=>lhs;reduce) ?_
  simp(maxDischargeDepth:=9)only[auX,reduceCtorEq,Nat.reduceAdd,zA,aZ,Nat.reduceAnd,hl_g hg,z0j c1,st,st2]
 .have bs:=B1.by.sc
  have st:=z0z g1 (o:=0) (vs:=[.int .i64 (.ofNat k),w]) (by rw[z0p z5y,z0p bs.2.1];rfl) rfl
  have hp:=(z1y d1).2.1
  have fin2:=fin (.cells [.int .i64 (.ofNat k),w] false false)
  have bl:∀ z,blk w z->z≠H.nx/\z≠q:=fun z hz=>⟨fun e=>by have:=B1.1.2 z hz;rw[e]at this;omega,fun e=>by have:=B1.1.2 z hz;rw[e]at this;omega⟩
  have B2:Bo H.nx.toNat (H1.upd H.nx (.cells [.int .i64 (.ofNat k),w] false false)) w p:=(B1.other (fun z hz=>z0a (fun e=>(bl z hz).1 e.symm)) lr).mono (by omega)
  have gq2:PT.get H.nx (H1.upd H.nx (.cells [.int .i64 (.ofNat k),w] false false)).t=some (.cells [.int .i64 (.ofNat k),w] false false):=z0q
  by_cases hk:k=2
  .subst hk
   have st3:=z0z fin2 (o:=2) (vs:=[.int .i64 (.ofNat (at'+(12+p.length)))]) rfl rfl
   obtain⟨u1,u2,u3⟩:=upk (H1.upd H.nx (.cells [.int .i64 (.ofNat 2),w] false false)) (.cells [.int .i64 (.ofNat 2),w] false false) (.cells (RdC F nm (at'+(12+p.length)) (ct+1)) false false) (Keep.refl _ _)
   refine⟨_,(H1.upd H.nx (.cells [.int .i64 (.ofNat 2),w] false false)).upd q (.cells (RdC F nm (at'+(12+p.length)) (ct+1)) false false),?_,.inl ⟨p,w,d1,rfl,B2.other (fun z hz=>z0a (fun e=>(bl z hz).2 e.symm)) lr,z0q⟩,u1,u2,u3⟩
   refine C.c226.re (by conv=>lhs;reduce) ?_
   simp(maxDischargeDepth:=9)only[auX,bq,reduceCtorEq,Nat.reduceAdd,zA,aZ,Nat.reduceAnd,hl_g hg,z0j c1,st,hl_g gq2,hl_g fin2,z0o (i:=at') (k:=12+p.length) (by omega),st3,z0o (i:=ct) (k:=1) (by omega),y8x (H:=H1.upd H.nx (.cells [.int .i64 (.ofNat 2),w] false false)) (b:=q) (p:=H.nx) (fun e=>hne (Pos.toNat_inj e))]
  .have st2:=z0z fin2 (o:=4) (vs:=[.bool true]) rfl rfl
   have hu:12+p.length<=(us.drop at').length:=(z1y d1).2.2.2.1
   obtain⟨H2,hH2⟩ :∃ H2,H2=(H1.upd H.nx (.cells [.int .i64 (.ofNat k),w] false false)).upd q (.cells [.ptr F 0,.str nm,.int .i64 (.ofNat at'),.int .i64 (.ofNat ct),.bool true] false false):=⟨_,rfl⟩
   have st2':z05 (H1.upd H.nx (.cells [.int .i64 (.ofNat k),w] false false)) q 4 [.bool true]=some H2:=by rw[hH2];exact st2
   have q2:PT.get q H2.t=some (.cells [.ptr F 0,.str nm,.int .i64 (.ofNat at'),.int .i64 (.ofNat ct),.bool true] false false):=by rw[hH2];exact z0q
   have x2:PT.get H.nx H2.t=some (.cells [.int .i64 (.ofNat k),w] false false):=by rw[hH2,z0a (fun e=>hne e.symm)];exact gq2
   have B3:Bo H.nx.toNat H2 w p:=by rw[hH2];exact B2.other (fun z hz=>z0a (fun e=>(bl z hz).2 e.symm)) lr
   have c4:=y85 C (H:=H2) ct (by omega)
   have k4:Keep H2.nx.toNat H2 (H2.new (.cells (z0b (b4 ct)) false false)).2:=z0d
   have L4:=(z5g (H:=H2) (b4 ct) (j2p _)).by
   rw[z0k]at L4
   have c5:=z9z C (B3.by.keep k4 lr).str L4.str
   rw[z1j]at c5
   have x4:PT.get H.nx (H2.new (.cells (z0b (b4 ct)) false false)).2.t=some (.cells [.int .i64 (.ofNat k),w] false false):=by rw[k4.get _ (by rw[hH2];exact Nat.lt_of_lt_of_le l0 K1.nx)];exact x2
   have q4:PT.get q (H2.new (.cells (z0b (b4 ct)) false false)).2.t=some (.cells [.ptr F 0,.str nm,.int .i64 (.ofNat at'),.int .i64 (.ofNat ct),.bool true] false false):=by rw[k4.get _ (by rw[hH2];show q.toNat<H1.nx.toNat;omega)];exact q2
   obtain⟨u1,u2,u3⟩:=upk (H1.upd H.nx (.cells [.int .i64 (.ofNat k),w] false false)) (.cells [.int .i64 (.ofNat k),w] false false) (.cells [.ptr F 0,.str nm,.int .i64 (.ofNat at'),.int .i64 (.ofNat ct),.bool true] false false) (Keep.refl _ _)
   rw[<-hH2]at u1 u2 u3
   have nn:=k4.nx
   have ub:=u1.nx
   have v1:=u1.trans (k4.mono ub)
   have v3:∀ z:Pos,z.toNat<H.nx.toNat->z≠q->PT.get z (H2.new (.cells (z0b (b4 ct)) false false)).2.t=PT.get z H.t:=fun z h1 h2=>by rw[k4.get _ (by omega),u3 z h1 h2]
   have F0:∀ v,NxR F nm H.nx.toNat q at' ct (us.drop at') v (H2.new (.cells (z0b (b4 ct)) false false)).2->z0f E 226 [.ptr q 0] H v (H2.new (.cells (z0b (b4 ct)) false false)).2->∃ r H',z0f E 226 [.ptr q 0] H r H'/\NxR F nm H.nx.toNat q at' ct (us.drop at') r H'/\Keep B.nx.toNat B H'/\H.nx.toNat<=H'.nx.toNat/\(∀ z:Pos,z.toNat<H.nx.toNat->z≠q->PT.get z H'.t=PT.get z H.t):=fun v hv hc=>⟨v,_,hc,hv,v1,by omega,v3⟩
   by_cases hk3:k=3
   .subst hk3
    by_cases hpb:p=b4 ct
    .rw[decide_eq_true hpb]at c5
     by_cases hm:12+p.length<(us.drop at').length
     .refine F0 _ (.inr (.inr ⟨fun p e=>by rw[d1]at e;(cases e),fun p' e hh=>by rw[d1]at e;(cases e);omega,rfl⟩)) ?_
      refine C.c226.re (by conv=>lhs;reduce) ?_
      simp(maxDischargeDepth:=9)only[auX,bq,reduceCtorEq,Nat.reduceEqDiff,Nat.reduceAdd,zA,aZ,Nat.reduceAnd,hl_g hg,z0j c1,st,bs,hl_g gq2,st2',hl_g q2,hl_g x2,hl_g x4,z0j c4,z0j c5,eq_true hm]
     .refine F0 _ (.inr (.inl ⟨p,d1,hpb,by omega,rfl⟩)) ?_
      refine C.c226.re (by conv=>lhs;reduce) ?_
      simp(maxDischargeDepth:=9)only[auX,bq,reduceCtorEq,Nat.reduceEqDiff,Nat.reduceAdd,zA,aZ,Nat.reduceAnd,hl_g hg,z0j c1,st,bs,hl_g gq2,st2',hl_g q2,hl_g x2,hl_g x4,z0j c4,z0j c5,eq_false hm]
    .rw[decide_eq_false hpb]at c5
     refine F0 _ (.inr (.inr ⟨fun p e=>by rw[d1]at e;(cases e),fun p' e hh=>by rw[d1]at e;(cases e);exact hpb hh.1,rfl⟩)) ?_
     refine C.c226.re (by conv=>lhs;reduce) ?_
     simp(maxDischargeDepth:=9)only[auX,bq,reduceCtorEq,Nat.reduceEqDiff,Nat.reduceAdd,zA,aZ,Nat.reduceAnd,hl_g hg,z0j c1,st,bs,hl_g gq2,st2',hl_g q2,hl_g x2,hl_g x4,z0j c4,z0j c5]
   .refine F0 _ (.inr (.inr ⟨fun p e=>by rw[d1]at e;(cases e);exact hk rfl,fun p' e hh=>by rw[d1]at e;(cases e);exact hk3 rfl,rfl⟩)) ?_
    refine C.c226.re (by conv=>lhs;reduce) ?_
    simp(maxDischargeDepth:=9)only[auX,bq,reduceCtorEq,Nat.reduceAdd,zA,aZ,Nat.reduceAnd,hl_g hg,z0j c1,st,bs,hl_g gq2,st2',hl_g q2,hl_g x2,hl_g x4,z0j c4,z0j c5,hk,hk3]
end
def LR(H:AHeap)(v:AVal)(uss:List (List Nat)) :Prop:=∃ zs:List (AVal×List Nat),zs.map (·.2)=uss/\Rd 1 H v zs.length (zs.map (·.1))/\∀ z∈zs,By H z.1 z.2
theorem LR.keep{m:Nat}{H H':AHeap}{v:AVal}{uss:List (List Nat)}(h:LR H v uss)(k:Keep m H H')(hm:H.nx.toNat<=m) :LR H' v uss:=by
 obtain⟨zs,h1,h2,h3⟩:=h
 exact⟨zs,h1,h2.keep k hm,fun z hz=>(h3 z hz).keep k hm⟩
def LdR(us:List Nat)(r:AVal)(H':AHeap) :Prop :=
 (rows us=none/\r=.tup [.snil,.snil,.int .i64 (.ofNat 90)])\/∃ h ds w l,rows us=some (h,ds)/\r=.tup [w,l,.int .i64 (.ofNat 0)]/\By H' w h/\LR H' l ds
theorem y1b{us:List Nat}(h:∀ p,fdec us≠some (1,p)) :rows us=none:=by
 unfold rows
 split
 .rename_i k p e
  by_cases hk:k=1
  .subst hk;exact absurd e (h p)
  .rw[if_neg hk]
 .rfl
theorem y6j{us p:List Nat}(h:fdec us=some (1,p)) :rows us=(row us.length 0 (us.drop (12+p.length))).map fun l=>(p,l):=by
 unfold rows
 rw[h]
 simp
theorem y6n{f c:Nat}{u:List Nat}(h1:∀ p,fdec u≠some (2,p))(h2:∀ p,fdec u=some (3,p)->¬ (p=b4 c/\u.length=12+p.length)) :row (f+1) c u=none:=by
 simp only[row]
 split
 .rename_i k p e
  by_cases hk:k=2
  .subst hk;exact absurd e (h1 p)
  .rw[if_neg hk,if_neg]
   rintro⟨rfl,h3⟩
   exact h2 p e h3
 .rfl
theorem y6l{f c:Nat}{u p:List Nat}(h:fdec u=some (3,p))(h1:p=b4 c)(h2:u.length=12+p.length) :row (f+1) c u=some []:=by
 subst h1
 exact y6m h (by rw[h2,z0k])
section
variable{E:Env}(C:Ck E)
include C
theorem y8a{H:AHeap}{F:Pos}{nm us:List Nat}(h:RHas H F nm us) :∃ r H',z0f E 159 [.ptr F 0,.str nm] H r H'/\LdR us r H'/\Keep H.nx.toNat H H':=by
 have hb:=h.b
 obtain⟨r,H1,c1,D,K1⟩:=q61 C h
 have n1:=K1.nx
 rcases D with⟨hd,q,w,d1,rfl,B1,g1,q1,q2,q3⟩ | ⟨d1,rfl⟩
 rotate_left
 .refine⟨_,H1,?_,.inl ⟨y1b d1,rfl⟩,K1⟩
  refine C.c159.re (by conv=>lhs;reduce) ?_
  simp(maxDischargeDepth:=9)only[auX,reduceCtorEq,z0c c1]
 have hrow:=y6j d1
 have hlen:=(z1y d1).2.2.2.1
 refine C.c159.rr (by conv=>lhs;reduce) ?_
 simp(maxDischargeDepth:=9)only[auX,z0c c1]
 refine W.loopI (fun f t H'=>∃ (at' ct:Nat) (l:AVal) (zs:List (AVal×List Nat)),PT.get (.o (.o (.o .h))) t=some (.ptr q 0)/\PT.get (.i (.o (.o .h))) t=some (w)/\PT.get (.i (.i (.o .h))) t=some (l)/\PT.get q H'.t=some (.cells (RdC F nm at' ct) false false)/\q.toNat<H'.nx.toNat/\Keep H.nx.toNat H H'/\By H' w hd/\(∀ p,blk w p->p≠q/\¬ blk l p)/\GO 1 H.nx.toNat H' l zs.length (zs.map (·.1))/\¬ blk l q/\(∀ z∈zs,By H' z.1 z.2/\∀ p,blk z.1 p->p≠q/\¬ blk l p)/\ct=zs.length/\ct<=at'/\at'<=us.length/\(us.drop at').length<f/\rows us=(row f ct (us.drop at')).map fun ds=>(hd,zs.map (·.2)++ds)) ?_ us.length _ _ ⟨12+hd.length,0,.snil,[],rfl,rfl,rfl,g1,q2,K1,B1.by,fun p hp=>⟨fun e=>q3 (e▸hp),fun e=>by cases e⟩,GO.nil,fun e=>by(cases e),fun z hz=>by(cases hz),rfl,by omega,hlen,by rw[List.length_drop];omega,hrow⟩
 rintro f t H' ⟨at',ct,l,zs,t7,t8,t10,gq,hq,hK,hw,hwb,hG,hlq,hz,hct,ha,hal,hf,hr⟩
 obtain⟨f,rfl⟩ :∃ m,f=m+1:=⟨f-1,by omega⟩
 obtain⟨r,H2,c2,D,KB,n2,fr⟩:=q65 C h hK q1 hq gq (by omega) (by omega)
 have w2:By H2 w hd:=hw.other (fun p hp=>fr p (hw.1.blk_lt p hp) (hwb p hp).1) n2
 have z2:∀ z∈zs,By H2 z.1 z.2:=fun z hzz=>(hz z hzz).1.other (fun p hp=>fr p ((hz z hzz).1.1.blk_lt p hp) ((hz z hzz).2 p hp).1) n2
 have G2:GO 1 H.nx.toNat H2 l zs.length (zs.map (·.1)):=⟨hG.1.other (fun p hp=>fr p (hG.1.rd.blk_lt p hp) (fun e=>hlq (e▸hp))) n2,hG.2⟩
 rcases D with⟨p,wp,d2,rfl,B2,g2⟩ | ⟨p,d2,d3,d4,rfl⟩ | ⟨d2,d3,rfl⟩
 .have hp:=z1y d2
  have hup:=hp.2.2.2.1
  rw[List.length_drop]at hup
  obtain⟨l2,H3,a3,G3,K3,fr3,fb,n3⟩:=z2u (by':=24) (by omega) G2 KB.nx (row:=[wp]) rfl (by rw[z0p B2.by.sc.2.1];rfl) (by omega)
  have n0:=hK.nx
  simp(maxDischargeDepth:=9)only[auX,t7,t8,t10,z0c c2,B2.by.sc,z0r a3]
  refine⟨f,by omega,at'+(12+p.length),ct+1,l2,zs++[(wp,p)],rfl,?_,by omega,KB.trans K3,?_,?_,?_,?_,?_,by simp[hct],by omega,by omega,?_,?_⟩
  .rw[fr3 q (by omega) hlq];exact g2
  .exact w2.other (fun p hp=>fr3 p (w2.1.blk_lt p hp) (hwb p hp).2) n3
  .exact fun z hzb=>⟨(hwb z hzb).1,fun e=>by have:=fb z e;have:=w2.1.blk_lt z hzb;omega⟩
  .rw[List.map_append,List.length_append];exact G3
  .exact fun e=>by have:=fb q e;omega
  .intro z hzz
   rcases List.mem_append.1 hzz with hzz | hzz
   .have y:=z2 z hzz
    exact⟨y.other (fun p hp=>fr3 p (y.1.blk_lt p hp) ((hz z hzz).2 p hp).2) n3,fun p hp=>⟨((hz z hzz).2 p hp).1,fun e=>by have:=fb p e;have:=y.1.blk_lt p hp;omega⟩⟩
   .obtain rfl:z=(wp,p):=by simpa using hzz
    have y:=B2.by
    exact⟨y.other (fun p hp=>fr3 p (y.1.blk_lt p hp) (fun e=>by have:=B2.1.2 p hp;have:=hG.1.rd.blk_lt p e;omega)) n3,fun p hp=>⟨fun e=>by have:=B2.1.2 p hp;rw[e]at this;omega,fun e=>by have:=fb p e;have:=y.1.blk_lt p hp;omega⟩⟩
  .rw[<-List.drop_drop,List.length_drop]
   have:=hp.2.2.2.1
   omega
  .rw[hr,j4s d2,List.drop_drop,Option.map_map]
   congr 1
   funext ds
   simp
 .simp(maxDischargeDepth:=9)only[auX,t7,t8,t10,z0c c2]
  refine⟨.inr ⟨hd,zs.map (·.2),w,l,?_,rfl,w2,⟨zs,rfl,G2.1.rd,z2⟩⟩,KB⟩
  rw[hr,y6l d2 d3 d4]
  simp
 .simp(maxDischargeDepth:=9)only[auX,reduceCtorEq,t7,z0c c2]
  exact⟨.inl ⟨by rw[hr,y6n d2 d3];rfl,rfl⟩,KB⟩
end
structure PF where
 nm:List Nat
 p:Pos
 d:AVal
 bs:List Nat
 sy:Nat
def PF.nk(f:PF) :AVal×AVal:=(.str f.nm,.ptr f.p 0)
def PF.hk(f:PF) :AVal×AVal:=(.ptr f.p 0,.bool true)
abbrev PC(m l:Pos)(pv:AVal)(h:Pos)(ct:Nat) :List AVal:=[.int .i64 (.ofNat 2147483647),.map m,.map l,pv,.map h,.bool false,.int .i64 (.ofNat 0),.int .i64 (.ofNat ct)]
abbrev PL(F m l h:Pos)(fl:List PF) :List Pos:=F::m::l::h::fl.map PF.p
structure PSt (H:AHeap) (F m l h:Pos) (pv:AVal) (fl:List PF) (nl np ct:Nat) :Prop where
 fs:PT.get F H.t=some (.cells (PC m l pv h ct) false false)
 gm:PT.get m H.t=some (.map (fl.map PF.nk))
 gl:PT.get l H.t=some (.map ((fl.take nl).map PF.nk))
 gh:PT.get h H.t=some (.map (fl.map PF.hk))
 gp:∃ cs,GS 1 H pv np cs
 ff:∀ f∈fl,PT.get f.p H.t=some (.cells [f.d,.int .i64 (.ofNat f.sy)] false false)/\By H f.d f.bs/\(f.bs=[]->f.d=.snil)
 nd:(PL F m l h fl).Nodup
 top:∀ q∈PL F m l h fl,q.toNat<H.nx.toNat
 bp:∀ q,blk pv q->q∉PL F m l h fl
 bd:∀ f∈fl,∀ q,blk f.d q->q∉PL F m l h fl/\¬ blk pv q
 nn:(fl.map PF.nm).Nodup
 nl:nl<=fl.length
def PSup(F m l h:Pos)(pv:AVal)(fl:List PF)(q:Pos) :Prop:=q∈PL F m l h fl\/blk pv q\/∃ f∈fl,blk f.d q
section
variable{H H':AHeap}{F m l h:Pos}{pv:AVal}{fl:List PF}{nl np ct:Nat}
theorem PSt.lt(s:PSt H F m l h pv fl nl np ct)(q:Pos)(hq:PSup F m l h pv fl q) :q.toNat<H.nx.toNat:=by
 rcases hq with hq | hq | ⟨f,hf,hq⟩
 .exact s.top q hq
 .obtain⟨cs,g⟩:=s.gp;exact g.rd.blk_lt q hq
 .exact(s.ff f hf).2.1.1.blk_lt q hq
theorem PSt.frame(s:PSt H F m l h pv fl nl np ct)(hg:∀ q,PSup F m l h pv fl q->PT.get q H'.t=PT.get q H.t)(hn:H.nx.toNat<=H'.nx.toNat) :PSt H' F m l h pv fl nl np ct where
 fs:=(hg F (.inl (by simp))).trans s.fs
 gm:=(hg m (.inl (by simp))).trans s.gm
 gl:=(hg l (.inl (by simp))).trans s.gl
 gh:=(hg h (.inl (by simp))).trans s.gh
 gp:=by obtain⟨cs,g⟩:=s.gp;exact⟨cs,g.other (fun q hq=>hg q (.inr (.inl hq))) hn⟩
 ff:=fun f hf=>⟨(hg f.p (.inl (by simp only[PL,List.mem_cons];exact .inr (.inr (.inr (.inr (List.mem_map.2 ⟨f,hf,rfl⟩))))))).trans (s.ff f hf).1,(s.ff f hf).2.1.other (fun q hq=>hg q (.inr (.inr ⟨f,hf,hq⟩))) hn,(s.ff f hf).2.2⟩
 nd:=s.nd
 top:=fun q hq=>Nat.lt_of_lt_of_le (s.top q hq) hn
 bp:=s.bp
 bd:=s.bd
 nn:=s.nn
 nl:=s.nl
theorem PSt.keep{M:Nat}(s:PSt H F m l h pv fl nl np ct)(k:Keep M H H')(hm:H.nx.toNat<=M) :PSt H' F m l h pv fl nl np ct:=s.frame (fun q hq=>k.get q (by have:=s.lt q hq;omega)) k.nx
theorem PSt.mem(f:PF)(hf:f∈fl) :f.p∈PL F m l h fl:=by simp only[PL,List.mem_cons];exact .inr (.inr (.inr (.inr (List.mem_map.2 ⟨f,hf,rfl⟩))))
theorem j5p{nm:List Nat} :∀ {fl:List PF},nm∉fl.map PF.nm->findKey H .str (.str nm) (fl.map PF.nk)=some none
 | [],_=>rfl
 | f::fl,hn=>by
  have h1:z14 nm f.nm=false:=by rw[z1j];simp;intro e;exact hn (by simp[e])
  simp only[List.map_cons,PF.nk,findKey,eqS,h1]
  exact j5p (fl:=fl) (fun e=>hn (by simp only[List.map_cons,List.mem_cons];exact .inr e))
theorem j5o{f:PF} :∀ {fl:List PF},f∈fl->(fl.map PF.nm).Nodup->findKey H .str (.str f.nm) (fl.map PF.nk)=some (some (.ptr f.p 0))
 | [],hf,_=>by cases hf
 | g::fl,hf,hn=>by
  simp only[List.map_cons,List.nodup_cons]at hn
  simp only[List.map_cons,PF.nk,findKey,eqS]
  rcases List.mem_cons.1 hf with rfl | hf
  .rw[j4q]
   have:=j5p (H:=H) hn.1
   simp only[this]
  .have h1:z14 f.nm g.nm=false:=by rw[z1j];simp;intro e;exact hn.1 (List.mem_map.2 ⟨f,hf,e⟩)
   rw[h1]
   exact j5o hf hn.2
theorem q4d{nm:List Nat}{v:AVal} :∀ {fl:List PF},nm∉fl.map PF.nm->z3i H .str (.str nm) v (fl.map PF.nk)=some (fl.map PF.nk++[(.str nm,v)])
 | [],_=>rfl
 | f::fl,hn=>by
  have h1:z14 nm f.nm=false:=by rw[z1j];simp;intro e;exact hn (by simp[e])
  have:=q4d (v:=v) (fl:=fl) (nm:=nm) (fun e=>hn (by simp only[List.map_cons,List.mem_cons];exact .inr e))
  simp only[List.map_cons,PF.nk,z3i,eqS,h1,this,List.cons_append]
theorem y7i{a b:Pos}(h:a≠b) :Pos.beq a b=false:=by
 cases e:Pos.beq a b with
 | false=>rfl
 | true=>exact absurd (Pos.beq_eq.1 e) h
theorem j5u{a b:Pos}(hab:a≠b)(ha:live H a=true)(hb:live H b=true) :eqS H .ptr (.ptr a 0) (.ptr b 0)=some false:=by
 simp only[eqS,y7i hab,ha,hb]
theorem y7e{q:Pos}{v:AVal} :∀ {fl:List PF},live H q=true->(∀ f∈fl,f.p≠q/\live H f.p=true)->z3i H .ptr (.ptr q 0) v (fl.map PF.hk)=some (fl.map PF.hk++[(.ptr q 0,v)])
 | [],_,_=>rfl
 | f::fl,hq,hl=>by
  have h1:=hl f (by simp)
  have:=y7e (v:=v) (fl:=fl) hq (fun g hg=>hl g (by simp[hg]))
  simp only[List.map_cons,PF.hk,z3i,j5u (fun e=>h1.1 e.symm) hq h1.2,this,List.cons_append]
theorem y9n{q:Pos} :∀ {fl:List PF},live H q=true->(∀ f∈fl,f.p≠q/\live H f.p=true)->j8b H (.ptr q 0) (fl.map PF.nk)=some (fl.map PF.nk)
 | [],_,_=>rfl
 | f::fl,hq,hl=>by
  have h1:=hl f (by simp)
  have:=y9n (fl:=fl) hq (fun g hg=>hl g (by simp[hg]))
  simp only[List.map_cons,PF.nk,j8b,j5u h1.1 h1.2 hq,this]
theorem j1z{q:Pos}{l:List AVal}(h:PT.get q H.t=some (.cells l false false)) :live H q=true:=by unfold live;rw[h]
theorem j3a:∀ {fl:List PF},(∀ f∈fl,PT.get f.p H.t=some (.cells [f.d,.int .i64 (.ofNat f.sy)] false false)/\By H f.d f.bs)->z42 H (fl.map PF.hk)=some (fl.map (·.bs.length)).sum
 | [],_=>rfl
 | f::fl,hl=>by
  obtain⟨h1,h2⟩:=hl f (by simp)
  have:=j3a (fl:=fl) (fun g hg=>hl g (by simp[hg]))
  have e:j3x H (.ptr f.p 0)=some f.bs.length:=by
   unfold j3x
   simp only[z9i h1,lget]
   obtain⟨_,⟨e,e2⟩ | ⟨b,o,c,z,e,_⟩⟩:=h2.1
   .rw[e,e2]
   .rw[e]
  simp only[List.map_cons,PF.hk,z42,e,this,List.sum_cons]
  rfl
end
section
variable{E:Env}(C:CkS E)
include C
theorem y8z{H:AHeap}{F m l h:Pos}{pv:AVal}{fl:List PF}{nl np ct:Nat}(s:PSt H F m l h pv fl nl np ct)(hb:(fl.map (·.bs.length)).sum<=9223372036854775807) :z0f E 54 [.ptr F 0] H (.int .i64 (.ofNat (fl.map (·.bs.length)).sum)) H.bump:=by
 refine z0f.sum C.s54 ?_
 unfold j61
 have e:z04 H F (Nat.add 0 4)=some (.map h):=by rw[z9i s.fs];rfl
 simp only[e,s.gh,j3a (fun f hf=>⟨(s.ff f hf).1,(s.ff f hf).2.1⟩),z4u hb]
end
theorem q1d{H:AHeap}{m:Pos}{nm:List Nat}{es:List (AVal×AVal)}{z:AVal}(hm:PT.get m H.t=some (.map es)){r:Option AVal}(hf:findKey H .str (.str nm) es=some r) :z52 H .str z (.map m) (.str nm) false=some (match r with | some v=>v | none=>z):=by
 unfold z52
 simp only[z3o,hm,j94,hf]
 cases r<;>rfl
theorem ep_n(H:AHeap) :eqV H (.one .ptr) .pnil .pnil=some true:=rfl
theorem ep_p(H:AHeap)(b:Pos)(o:Nat) :eqV H (.one .ptr) (.ptr b o) .pnil=some false:=rfl
theorem es_n(H:AHeap) :eqV H (.one .sl) .snil .snil=some true:=rfl
theorem es_s(H:AHeap)(b:Pos)(o n c z:Nat) :eqV H (.one .sl) (.sl b o n c z) .snil=some false:=rfl
section
variable{E:Env}(C:CkS E)
include C
theorem q1z{H:AHeap}{s:List Nat}(h:IsNm s) :z0f E 138 [.str s] H (.bool true) H:=by
 obtain⟨h1,h2,hc⟩:=h
 refine C.c138.re (by conv=>lhs;reduce) ?_
 simp(maxDischargeDepth:=9)only[auX,bq,show ¬ s.length<1 by omega,show ¬ 64<s.length by omega]
 refine W.loopI (fun k t H'=>∃ i,i+k=s.length/\PT.get .h t=some (.str s)/\PT.get (.i (.i (.i .h))) t=some (.int .i64 (.ofNat s.length))/\PT.get (.o (.o (.o (.o .h)))) t=some (.int .i64 (.ofNat i))/\H'=H) ?_ s.length _ _ ⟨0,by omega,rfl,rfl,rfl,rfl⟩
 rintro k t H' ⟨i,hi,g0,g14,g1,rfl⟩
 by_cases hk:k=0
 .simp(maxDischargeDepth:=9)only[auX,↓reduceIte,g14,g1,show ¬ i<s.length by omega]
 .have hi2:i<s.length:=by omega
  have:=hc s[i] (List.getElem_mem hi2)
  unfold okc at this
  by_cases a1:s[i]<97<;>by_cases a2:122<s[i]<;>by_cases a3:s[i]<48<;>by_cases a4:57<s[i]<;>by_cases a5:s[i]=46<;>first | (exfalso;omega) | (simp(maxDischargeDepth:=9)only[auX,bq,g14,g0,g1,hi2,y8s hi2,a1,a2,a3,a4,a5,z0o (i:=i) (k:=1) (by omega)];exact⟨k-1,by omega,i+1,by omega,by simp⟩)
theorem y0e{H:AHeap}{F q:Pos}{v1 v2 v3 v4 v5:AVal}{w6 w7:AVal}(fs:PT.get F H.t=some (.cells [v1,v2,v3,v4,v5,.bool false,w6,w7] false false)){nm:List Nat}(hq:PT.get q H.t=some (.cells [.str nm] false false))(h:IsNm nm) :z0f E 71 [.ptr F 0,.sl q 0 1 1 0] H (.int .i64 (.ofNat 0)) H:=by
 have hx:z2t 1 (.sl q 0 1 1 0) (.int .i64 (.ofNat 0))=some (.ptr q 0):=rfl
 refine C.c71.re (by conv=>lhs;reduce) ?_
 simp(maxDischargeDepth:=9)only[auX]
 refine W.loopI (fun k t H'=>∃ i,i+k=1/\PT.get .h t=some (.ptr F 0)/\PT.get (.o (.o (.o .h))) t=some (.sl q 0 1 1 0)/\PT.get (.i (.o (.o .h))) t=some (.int .i64 (.ofNat 1))/\PT.get (.o (.i (.o .h))) t=some (.int .i64 (.ofNat i))/\H'=H) ?_ 1 _ _ ⟨0,by omega,rfl,rfl,rfl,rfl,rfl⟩
 rintro k t H' ⟨i,hi,g0,g7,g8,g9,rfl⟩
 by_cases hk:k=0
 .obtain rfl:i=1:=by omega
  simp(maxDischargeDepth:=9)only[auX,↓reduceIte,zA,g0,g8,g9,hl_g fs,show ¬ 1<1 by omega]
 .obtain rfl:i=0:=by omega
  simp(maxDischargeDepth:=9)only[auX,zA,g0,g7,g8,g9,hx,hl_g hq,z0c (q1z C (H:=H') h),show 0<1 by omega,z0o (i:=0) (k:=1) (by omega)]
  exact⟨0,by omega,1,by omega,rfl⟩
theorem j5q{H:AHeap}{F m l h:Pos}{pv:AVal}{fl:List PF}{nl np ct:Nat}(s:PSt H F m l h pv fl nl np ct){f:PF}(hf:f∈fl)(hn:IsNm f.nm) :z0f E 77 [.ptr F 0,.str f.nm] H (.tup [.ptr f.p 0,.int .i64 (.ofNat 0)]) (H.new (.cells [.str f.nm] false false)).2:=by
 have k0:Keep H.nx.toNat H (H.new (.cells [.str f.nm] false false)).2:=z0d
 have s0:=s.keep k0 lr
 have c:=y0e C s0.fs (q:=H.nx) z0i hn
 have lk:=q1d (z:=.pnil) s0.gm (j5o hf s.nn)
 refine C.c77.re (by conv=>lhs;reduce) ?_
 simp(maxDischargeDepth:=9)only[auX,zA,z0c c,hl_g s0.fs,lk,ep_p]
theorem q2h{H:AHeap}{F m l h:Pos}{pv:AVal}{fl:List PF}{nl np ct:Nat}(s:PSt H F m l h pv fl nl np ct){nm:List Nat}(hf:nm∉fl.map PF.nm)(hn:IsNm nm) :z0f E 77 [.ptr F 0,.str nm] H (.tup [.pnil,.int .i64 (.ofNat 82)]) (H.new (.cells [.str nm] false false)).2:=by
 have k0:Keep H.nx.toNat H (H.new (.cells [.str nm] false false)).2:=z0d
 have s0:=s.keep k0 lr
 have c:=y0e C s0.fs (q:=H.nx) z0i hn
 have lk:=q1d (z:=.pnil) s0.gm (j5p hf)
 refine C.c77.re (by conv=>lhs;reduce) ?_
 simp(maxDischargeDepth:=9)only[auX,zA,z0c c,hl_g s0.fs,lk,ep_n]
theorem j5z{H:AHeap}{F m l h:Pos}{pv:AVal}{ct:Nat}(fs:PT.get F H.t=some (.cells (PC m l pv h ct) false false))(hc:ct<=1000000) :z0f E 78 [.ptr F 0] H (.int .i64 (.ofNat 0)) (H.upd F (.cells (PC m l pv h (ct+1)) false false)):=by
 refine C.c78.re (by conv=>lhs;reduce) ?_
 simp(maxDischargeDepth:=9)only[auX,zA,hl_g fs,z0z fs,z0o (i:=ct) (k:=1) (by omega),show ¬ 0<0 by omega]
theorem y6c{H:AHeap}{F m l h:Pos}{pv:AVal}{fl:List PF}{nl np ct:Nat}(s:PSt H F m l h pv fl nl np ct){f:PF}(hf:f∈fl)(hn:IsNm f.nm) :∃ H',z0f E 113 [.ptr F 0,.str f.nm] H (.tup [.int .i64 (.ofNat f.bs.length),.int .i64 (.ofNat 0)]) H'/\Keep H.nx.toNat H H':=by
 have k0:Keep H.nx.toNat H (H.new (.cells [.str f.nm] false false)).2:=z0d
 have s0:=s.keep k0 lr
 refine⟨_,?_,k0⟩
 refine C.c113.re (by conv=>lhs;reduce) ?_
 simp(maxDischargeDepth:=9)only[auX,aZ,z0c (j5q C s hf hn),hl_g (s0.ff f hf).1,(s0.ff f hf).2.1.sc]
end
end Go.Am
