import Derived.Test.YtepncpggenncoaaGreatDoorDc11
import Derived.Test.YtepncpggenncoaaGreatDoorDc10
import Derived.Test.YtepncpggenncoaaGreatDoorDc9
import Derived.Test.YtepncpggenncoaaGreatDoorDc8
set_option linter.all false
set_option maxRecDepth 20000
set_option maxHeartbeats 8000000
namespace Go.Am
open Go Go.Proofs
theorem k18{k by':Nat}{b:Pos}{H:AHeap}{x:AVal}{old new:List AVal}(hg:PT.get b H.t=some (.cells old false false))(hx:z1e H k x=some (1,new))(hl:new.length=k)(ho:old.length=k)(hs:z1l new=true) :z09 H k by' (.sl b 0 0 1 0) x=some (.sl b 0 1 1 0,H.upd b (.cells new false false)):=by
 unfold z09
 simp only[hx]
 have e:lput old (Nat.add 0 (Nat.mul 0 k)) new=some new:=by
  rw[z36 _ _ _ (by show 0+0*k+_<=_;omega)]
  show some (List.take (0+0*k) old++new++List.drop (0+0*k+new.length) old)=_
  rw[List.drop_eq_nil_of_le (by omega)]
  simp
 show(match z05 H b (Nat.add 0 (Nat.mul 0 k)) new with
  | some h'=>some (AVal.sl b 0 (Nat.add 0 1) 1 0,h')
  | none=>none)=_
 rw[j7z,hg]
 simp only[stU,hs,e]
structure One (N:Nat) (H:AHeap) (b:Pos) (nm:List Nat) (w:AVal) (us:List Nat) :Prop where
 g:PT.get b H.t=some (.cells [.str nm,w] false false)
 o:Bo N H w us
 x:¬ blk w b
 n:N<=b.toNat
 l:b.toNat<H.nx.toNat
theorem z6u{H:AHeap}{b:Pos}{nm:List Nat}{w:AVal}{us:List Nat}(g:PT.get b H.t=some (.cells [.str nm,w] false false))(l:b.toNat<H.nx.toNat)(h:By H w us){N:Nat}(hb:N<=b.toNat)(hw:∀ p,blk w p->N<=p.toNat) :z2c N H (.sl b 0 1 1 0) [(nm,us)] :=
 ⟨[(nm,w,us)],rfl,⟨rfl,.inr ⟨b,0,1,0,rfl,by rw[z2x g];rfl,.inl rfl,lr,l⟩⟩,fun p hp=>by cases hp;exact hb,fun f hf=>by
  obtain rfl:f=_:=List.mem_singleton.1 hf
  exact⟨h,hw⟩⟩
theorem One.files{N:Nat}{H:AHeap}{b:Pos}{nm:List Nat}{w:AVal}{us:List Nat}(h:One N H b nm w us) :z2c N H (.sl b 0 1 1 0) [(nm,us)]:=z6u h.g h.l h.o.by h.n h.o.1.2
theorem q9c{b:Pos}{t:PT AVal}{y z:AOpnd}(hy:y.ev t=.int .i64 (.ofNat 0))(hz:z.ev t=.int .i64 (.ofNat 0)) :z0w t (.sl 2) (.sl b 0 1 1 0) none (some y) (some z)=some (.sl b 0 0 0 0):=by
 simp only[z0w,z08,hy,hz,z3j]
theorem q9b{b:Pos}{t:PT AVal}{y:AOpnd}(hy:y.ev t=.int .i64 (.ofNat 1)) :z0w t (.sl 2) (.sl b 0 1 1 0) (some y) none none=some (.sl b 0 0 0 0):=by
 simp only[z0w,z08,hy,z3j]
theorem q5s{b:Pos}{H:AHeap}{l:List AVal}(g:PT.get b H.t=some (.cells l false false)) :z09 H 2 40 (.sl b 0 0 0 0) (.sl b 0 0 0 0)=some (.sl b 0 0 0 0,H.upd b (.cells l false false)):=by
 have hx:z1e H 2 (.sl b 0 0 0 0)=some (0,[]):=by
  unfold z1e
  simp only[z2x g]
  rw[z27 (by show 0+0*2<=_;omega)]
  rfl
 have e:lput l (Nat.add 0 (Nat.mul 0 2)) []=some l:=by
  rw[z36 _ _ _ (by show 0+0*2+0<=_;omega)]
  simp
 unfold z09
 simp only[hx]
 show(match z05 H b (Nat.add 0 (Nat.mul 0 2)) []with
  | some h'=>some (AVal.sl b 0 (Nat.add 0 0) 0 0,h')
  | none=>none)=_
 rw[j7z,g]
 simp only[stU,z1l,e]
theorem j2e{H:AHeap}{b:Pos}{z:Nat}(hg:∃ cs op,PT.get b H.t=some (.cells cs op false))(hb:b.toNat<H.nx.toNat){N:Nat}(hN:N<=b.toNat) :z2c N H (.sl b 0 0 z 0) []:=by
 obtain⟨cs,op,hg⟩:=hg
 exact⟨[],rfl,⟨rfl,.inr ⟨b,0,z,0,rfl,by rw[z2x hg];rfl,.inl rfl,Nat.zero_le _,hb⟩⟩,fun p hp=>by cases hp;exact hN,fun f hf=>by cases hf⟩
section
variable{E:Env}(C:Ck E)
include C
theorem y9c{H:AHeap}{v:AVal}(h:z5l H v []) :∃ H',z0f E 41 [v] H (.sl H.nx 0 0 0 0) H'/\z2c H.nx.toNat H' (.sl H.nx 0 0 0 0) []/\Keep H.nx.toNat H H':=by
 obtain⟨l,hl,hr,_⟩:=h
 obtain rfl:l=[]:=by cases l with
  | nil=>rfl
  | cons a l=>cases hl
 refine⟨(H.new (.cells [] false false)).2,?_,j2e ⟨_,_,z0i⟩ z0h lr,z0d⟩
 suffices hh:∃ r H2,z0f E 41 [v] H r H2/\(r=.sl H.nx 0 0 0 0/\H2=(H.new (.cells [] false false)).2)from by
  obtain⟨_,_,hc,rfl,rfl⟩:=hh
  exact hc
 have ln:∀ H2,fLen H2 1 v=some (.int .i64 (.ofNat 0)):=fun _=>hr.len
 refine C.c41.rr (by conv=>lhs;reduce) ?_
 simp(maxDischargeDepth:=9)only[auX,ln,j2w (bytes:=40) (n:=0) (c:=0) ⟨lr,by omega,by omega⟩]
 refine W.loopI (fun k t H2=>H2=(H.new (.cells [] false false)).2/\PT.get .h t=some (v)/\PT.get (.o (.o .h)) t=some (.sl H.nx 0 0 0 0)/\PT.get (.i (.o .h)) t=some (.int .i64 (.ofNat 0))) ?_ 0 _ _ ⟨rfl,rfl,rfl,rfl⟩
 rintro k t H2 ⟨rfl,t0,t3,t4⟩
 simp(maxDischargeDepth:=9)only[auX,↓reduceIte,t0,t3,t4,ln,eq_false (Nat.lt_irrefl 0)]
theorem y9b{H:AHeap}{v:AVal}{nm us:List Nat}(h:z5l H v [(nm,us)])(hl:us.length<=1000000) :∃ b w H',z0f E 41 [v] H (.sl b 0 1 1 0) H'/\One H.nx.toNat H' b nm w us/\Keep H.nx.toNat H H':=by
 obtain⟨l,hl',hr,hu⟩:=h
 obtain⟨v0,rfl⟩ :∃ v0,l=[(nm,v0,us)]:=by
  cases l with
  | nil=>cases hl'
  | cons a l =>
   cases l with
   | cons b l=>cases hl'
   | nil =>
    obtain⟨a1,a2,a3⟩:=a
    cases hl'
    exact⟨a2,rfl⟩
 have hb:By H v0 us:=hu (nm,v0,us) (List.mem_singleton.2 rfl)
 have ln:∀ H2,fLen H2 1 v=some (.int .i64 (.ofNat 1)):=fun _=>hr.len
 obtain⟨A,hA⟩ :∃ A,A=(H.new (.cells [.str [],.snil] false false)).2:=⟨_,rfl⟩
 have kA:Keep H.nx.toNat H A:=by rw[hA];exact z0d
 have gA:PT.get H.nx A.t=some (.cells [.str [],.snil] false false):=by rw[hA];exact z0i
 have nA:H.nx.toNat<A.nx.toNat:=by rw[hA];exact z0h
 obtain⟨p,o,i1,i2,_⟩:=(hr.keep kA lr).at (i:=0) (by simp)
 have i2:z0t A p o 2=some [.str nm,v0]:=i2
 have i1:z2t 2 v (.int .i64 (.ofNat 0))=some (.ptr p o):=i1
 obtain⟨w,B,c,Bw,K⟩:=q2j C (nm:=nm) (hb.keep kA lr) hl
 have nB:=K.nx
 have sw:=Bw.by.sc
 have s0:=hb.sc
 obtain⟨D,hD⟩ :∃ D,D=(B.new (.cells [.str nm,w] false false)).2:=⟨_,rfl⟩
 have kD:Keep B.nx.toNat B D:=by rw[hD];exact z0d
 have nD:=kD.nx
 obtain⟨F,hF⟩ :∃ F,F=(D.new (.cells [.str nm,w] false false)).2:=⟨_,rfl⟩
 have kF:Keep D.nx.toNat D F:=by rw[hF];exact z0d
 have nF:=kF.nx
 have gF:PT.get H.nx F.t=some (.cells [.str [],.snil] false false):=by rw[kF.get _ (by omega),kD.get _ (by omega),K.get _ nA];exact gA
 have hx:z1e F 2 (.sl D.nx 0 1 1 0)=some (1,[.str nm,w]):=by rw[hF];exact z9y rfl
 have ap:=k18 (by':=40) gF hx rfl rfl (by rw[z0p rfl,z0p sw.2.1];rfl)
 have hw:∀ q,blk w q->q≠H.nx:=fun q hq e=>by have:=Bw.1.2 q hq;rw[e]at this;omega
 have KF:Keep H.nx.toNat H F:=((kA.trans (K.mono (by omega))).trans (kD.mono (by omega))).trans (kF.mono (by omega))
 refine⟨H.nx,w,F.upd H.nx (.cells [.str nm,w] false false),?_,⟨z0q,?_,fun e=>hw _ e rfl,lr,by show _<F.nx.toNat;omega⟩,KF.trans (z0s lr)⟩
 .suffices hh:∃ r H2,z0f E 41 [v] H r H2/\(r=.sl H.nx 0 1 1 0/\H2=F.upd H.nx (.cells [.str nm,w] false false))from by
   obtain⟨_,_,hc,rfl,rfl⟩:=hh
   exact hc
  have nBx:B.nx.succ=D.nx:=by rw[hD];rfl
  refine C.c41.rr (by conv=>lhs;reduce) ?_
  simp(maxDischargeDepth:=9)only[auX,ln,j2w (bytes:=40) (n:=0) (c:=1) ⟨by omega,by omega,by omega⟩]
  refine W.loopI (fun k t H2=>PT.get .h t=some (v)/\((k=1/\H2=A/\PT.get (.o (.o .h)) t=some (.sl H.nx 0 0 1 0)/\PT.get (.i (.o .h)) t=some (.int .i64 (.ofNat 0)))\/(k=0/\H2=F.upd H.nx (.cells [.str nm,w] false false)/\PT.get (.o (.o .h)) t=some (.sl H.nx 0 1 1 0)/\PT.get (.i (.o .h)) t=some (.int .i64 (.ofNat 1))))) ?_ 1 _ _ ⟨rfl,.inl ⟨rfl,by rw[hA];rfl,rfl,rfl⟩⟩
  rintro k t H2 ⟨t0,⟨rfl,rfl,t3,t4⟩ | ⟨rfl,rfl,t3,t4⟩⟩
  .subst hF
   subst hD
   simp only[y7t]at ap
   simp(maxDischargeDepth:=9)only[auX,Nat.reduceAdd,zA,t0,t3,t4,ln,i1,i2,z0c c,sw,z0r ap,z0o (i:=0) (k:=1) (by omega),eq_true (show 0<1 by omega)]
   exact⟨0,by omega,.inr rfl⟩
  .simp(maxDischargeDepth:=9)only[auX,↓reduceIte,t0,t3,t4,ln,eq_false (Nat.lt_irrefl 1)]
 .have b1:=(Bw.keep kD lr).keep kF lr
  exact⟨⟨b1.1.1.other (fun q hq=>z0a (Ne.symm (hw q hq))) lr,fun q hq=>by have:=Bw.1.2 q hq;omega⟩,b1.2⟩
theorem q2r{H:AHeap}{v ev:AVal}{fs:List (List Nat×List Nat)}(hf:z5l H v fs)(hfs:fs=[]\/∃ us,fs=[(cnm,us)]/\us.length<=10000){kd at':Int}{x:Nat}(hx:x<256)(he:Rd 4 H ev 1 [.int .i64 kd,.int .i64 (.ofNat 0),.int .i64 at',.int .u8 (.ofNat x)]) :∃ w H' fs',z0f E 9 [v,ev] H w H'/\z2c H.nx.toNat H' w fs'/\(fs'=[]\/∃ us,fs'=[(cnm,us)]/\us.length<=10001)/\Keep H.nx.toNat H H':=by
 have le:∀ H2,fLen H2 1 ev=some (.int .i64 (.ofNat 1)):=fun _=>he.len
 rcases hfs with rfl | ⟨us,rfl,hl⟩
 .obtain⟨H1,c1,F1,K1⟩:=y9c C hf
  refine⟨_,H1,[],?_,F1,.inl rfl,K1⟩
  suffices hh:∃ r H2,z0f E 9 [v,ev] H r H2/\(r=.sl H.nx 0 0 0 0/\H2=H1)from by
   obtain⟨_,_,hc,rfl,rfl⟩:=hh
   exact hc
  refine C.c9.rr (by conv=>lhs;reduce) ?_
  simp(maxDischargeDepth:=9)only[auX,z0c c1]
  refine W.loopI (fun k t H2=>H2=H1/\PT.get (.o .h) t=some (ev)/\PT.get (.o (.i .h)) t=some (.sl H.nx 0 0 0 0)/\PT.get (.i (.i .h)) t=some (.int .i64 (.ofNat 0))) ?_ 0 _ _ ⟨rfl,rfl,rfl,rfl⟩
  rintro k t H2 ⟨rfl,t1,t5,t6⟩
  simp(maxDischargeDepth:=9)only[auX,bq,↓reduceIte,t1,t5,t6,le,eq_true (show 0<1 by omega),eq_true (show 0<60 by omega),eq_false (Nat.lt_irrefl 0)]
 .obtain⟨b,w,H1,c1,O,K1⟩:=y9b C hf (by omega)
  suffices hh:∃ r H2,z0f E 9 [v,ev] H r H2/\(∃ fs',(fs'=[]\/∃ us,fs'=[(cnm,us)]/\us.length<=10001)/\z2c H.nx.toNat H2 r fs'/\Keep H.nx.toNat H H2)from by
   obtain⟨r,H2,hc,fs',h1,h2,h3⟩:=hh
   exact⟨r,H2,fs',hc,h2,h1,h3⟩
  refine C.c9.rr (by conv=>lhs;reduce) ?_
  simp(maxDischargeDepth:=9)only[auX,z0c c1]
  refine W.loopI (fun k t H2=>∃ s,PT.get (.o .h) t=some (ev)/\PT.get (.o (.i .h)) t=some (s)/\((k=1/\H1=H2/\s=.sl b 0 1 1 0/\PT.get (.i (.i .h)) t=some (.int .i64 (.ofNat 0)))\/(k=0/\PT.get (.i (.i .h)) t=some (.int .i64 (.ofNat 1))/\∃ fs',(fs'=[]\/∃ us,fs'=[(cnm,us)]/\us.length<=10001)/\z2c H.nx.toNat H2 s fs'/\Keep H.nx.toNat H H2))) ?_ 1 _ _ ⟨_,rfl,rfl,.inl ⟨rfl,rfl,rfl,rfl⟩⟩
  rintro k t H2 ⟨s,t1,t5,⟨rfl,rfl,rfl,t6⟩ | ⟨rfl,t6,hh⟩⟩
  rotate_left
  .simp(maxDischargeDepth:=9)only[auX,↓reduceIte,t1,t5,t6,le,eq_false (Nat.lt_irrefl 1)]
   exact hh
  obtain⟨p,o,x1,_,hxx⟩:=(he.keep K1 lr).at (i:=0) (by omega)
  have x2:=hxx 0 (by omega) (by simp)
  have x3:=hxx 1 (by omega) (by simp)
  have x4:=hxx 2 (by omega) (by simp)
  have x5:=hxx 3 (by omega) (by simp)
  simp only[aZ,Nat.zero_mul,zA,List.getElem_cons_zero,List.getElem_cons_succ]at x2 x3 x4 x5
  have fo:z2t 2 (.sl b 0 1 1 0) (.int .i64 (.ofNat 0))=some (.ptr b 0):=rfl
  have sc:=O.o.by.sc
  have ls:=sc.1
  have hk:kd=.ofNat 1\/kd=.ofNat 2\/kd=.ofNat 3\/kd=.ofNat 4\/(¬ kd=.ofNat 1/\¬ kd=.ofNat 2/\¬ kd=.ofNat 3/\¬ kd=.ofNat 4):=by omega
  rcases Nat.eq_zero_or_pos us.length with h0 | h0
  .rcases hk with rfl | rfl | rfl | rfl | ⟨k1,k2,k3,k4⟩
   .simp(maxDischargeDepth:=9)only[auX,bq,zA,aZ,t1,t5,t6,le,x1,x2,x3,fo,hl_g O.g,ls,z38 0 (show 0<1 by omega),z0o (i:=0) (k:=1) (by omega),z38 1 (show 0<1 by omega),Nat.reduceMod,eq_true (show 0<1 by omega),eq_true (show 0<60 by omega),h0,eq_false (Nat.lt_irrefl 0)]
    exact⟨0,by omega,_,rfl,.inr ⟨rfl,[(cnm,us)],.inr ⟨_,rfl,by omega⟩,O.files,K1⟩⟩
   .obtain⟨w2,y1,y2,y3⟩:=y06 O.o.by.1 (b:=0) (by omega)
    rw[z3b]at y1
    have sw:=And.intro y1.scal y1.same
    have st:=z0z O.g (o:=1) (vs:=[w2]) (by rw[z0p sw.1];rfl) rfl
    simp(maxDischargeDepth:=9)only[auX,bq,Nat.reduceEqDiff,zA,aZ,t1,t5,t6,le,x1,x2,x3,fo,hl_g O.g,ls,z38 0 (show 0<1 by omega),z0o (i:=0) (k:=1) (by omega),z38 1 (show 0<1 by omega),Nat.reduceMod,eq_true (show 0<1 by omega),eq_true (show 0<60 by omega),h0,eq_false (Nat.lt_irrefl 0),y3,sw,st]
    have y5:(us.take 0).length=0:=by rw[List.length_take];omega
    have y4:By (H1.upd b (.cells [.str cnm,w2] false false)) w2 (us.take 0):=⟨by rw[y5];exact y1.other (fun p hp=>z0a (fun e=>O.x (by rw[e];exact y2 p hp))) lr,fun u hu=>O.o.2 u (List.mem_of_mem_take hu)⟩
    exact⟨0,by omega,_,rfl,.inr ⟨rfl,[(cnm,us.take 0)],.inr ⟨_,rfl,by omega⟩,z6u z0q O.l y4 O.n (fun p hp=>O.o.1.2 p (y2 p hp)),K1.trans (z0s O.n)⟩⟩
   .have gN:PT.get b (H1.new (.cells [.int .u8 (.ofNat x)] false false)).2.t=some (.cells [.str cnm,w] false false):=(z0d.get b O.l).trans O.g
    obtain⟨w2,H3,a2,G2,K2,fr,fb,nn⟩:=z2u (by':=1) (by omega) O.o.1 K1.nx (row:=[.int .u8 (.ofNat x)]) rfl rfl (by omega)
    have g3:PT.get b H3.t=some (.cells [.str cnm,w] false false):=(fr b O.l O.x).trans O.g
    have sw:=And.intro G2.1.rd.scal G2.1.rd.same
    have st:=z0z g3 (o:=1) (vs:=[w2]) (by rw[z0p sw.1];rfl) rfl
    simp(maxDischargeDepth:=9)only[auX,bq,reduceCtorEq,Nat.reduceEqDiff,zA,aZ,Nat.reduceAnd,t1,t5,t6,le,x1,x2,x3,x5,fo,hl_g O.g,ls,z38 0 (show 0<1 by omega),z0o (i:=0) (k:=1) (by omega),z38 1 (show 0<1 by omega),Nat.reduceMod,eq_true (show 0<1 by omega),eq_true (show 0<60 by omega),h0,eq_false (Nat.lt_irrefl 0),z16 a2,sw,st]
    have e:z0b us++[.int .u8 (.ofNat x)]=z0b (us++[x]):=(z33 us [x]).symm
    rw[e]at G2
    have y4:By (H3.upd b (.cells [.str cnm,w2] false false)) w2 (us++[x]):=⟨by rw[List.length_append];exact G2.1.rd.other (fun p hp=>z0a (fun e=>by have:=fb p hp;have:=O.l;rw[e]at this;omega)) lr,fun u hu=>(List.mem_append.1 hu).elim (O.o.2 u) (fun h=>by rw[List.mem_singleton.1 h];exact hx)⟩
    exact⟨0,by omega,_,rfl,.inr ⟨rfl,[(cnm,us++[x])],.inr ⟨_,rfl,by rw[List.length_append];exact Nat.succ_le_succ hl⟩,z6u z0q (by have:=O.l;show _<H3.nx.toNat;omega) y4 O.n G2.2,(K1.trans K2).trans (z0s O.n)⟩⟩
   .simp(maxDischargeDepth:=9)only[auX,bq,reduceCtorEq,Nat.reduceEqDiff,zA,aZ,Nat.reduceAnd,t1,t5,t6,le,x1,x2,x3,fo,hl_g O.g,ls,z38 0 (show 0<1 by omega),z0o (i:=0) (k:=1) (by omega),z38 1 (show 0<1 by omega),Nat.reduceMod,eq_true (show 0<1 by omega),eq_true (show 0<60 by omega),h0,eq_false (Nat.lt_irrefl 0),q9c,q9b,z16 (q5s O.g)]
    exact⟨0,by omega,_,rfl,.inr ⟨rfl,[],.inl rfl,j2e ⟨_,_,z0q⟩ O.l O.n,K1.trans (z0s O.n)⟩⟩
   .simp(maxDischargeDepth:=9)only[auX,bq,zA,aZ,t1,t5,t6,le,x1,x2,x3,fo,hl_g O.g,ls,z38 0 (show 0<1 by omega),z0o (i:=0) (k:=1) (by omega),z38 1 (show 0<1 by omega),Nat.reduceMod,eq_true (show 0<1 by omega),eq_true (show 0<60 by omega),h0,eq_false (Nat.lt_irrefl 0),k1h,eq_false k1,eq_false k2,eq_false k3,eq_false k4]
    exact⟨0,by omega,_,rfl,.inr ⟨rfl,[(cnm,us)],.inr ⟨_,rfl,by omega⟩,O.files,K1⟩⟩
  .obtain⟨r,s,a,r1,r2,r3,ha⟩:=q7i at' h0 (by omega)
   rcases hk with rfl | rfl | rfl | rfl | ⟨k1,k2,k3,k4⟩
   .obtain⟨bb,op,y1,y2,y3,y4,y5,y6⟩:=O.o.put ha (y:=Nat.mod (Nat.mod (Nat.xor us[a] x) 256) 256) (Nat.mod_lt _ (by omega))
    simp(maxDischargeDepth:=9)only[auX,bq,reduceCtorEq,zA,aZ,Nat.reduceAnd,t1,t5,t6,le,x1,x2,x3,x4,x5,fo,hl_g O.g,ls,z38 0 (show 0<1 by omega),z0o (i:=0) (k:=1) (by omega),z38 1 (show 0<1 by omega),Nat.reduceMod,eq_true (show 0<1 by omega),eq_true (show 0<60 by omega),eq_true h0,r1,r2,r3,y1,y3,y4]
    have nb:bb≠b:=fun e=>O.x ((y6 b).2 e.symm)
    exact⟨0,by omega,_,rfl,.inr ⟨rfl,[(cnm,us.set a _)],.inr ⟨_,rfl,by rw[List.length_set];omega⟩,(One.mk (by rw[z0a nb];exact O.g) y5 O.x O.n O.l).files,K1.trans (z0s y2)⟩⟩
   .obtain⟨w2,y1,y2,y3⟩:=y06 O.o.by.1 (b:=a) (by omega)
    rw[z3b]at y1
    have sw:=And.intro y1.scal y1.same
    have st:=z0z O.g (o:=1) (vs:=[w2]) (by rw[z0p sw.1];rfl) rfl
    simp(maxDischargeDepth:=9)only[auX,bq,Nat.reduceEqDiff,zA,aZ,t1,t5,t6,le,x1,x2,x3,x4,fo,hl_g O.g,ls,z38 0 (show 0<1 by omega),z0o (i:=0) (k:=1) (by omega),z38 1 (show 0<1 by omega),Nat.reduceMod,eq_true (show 0<1 by omega),eq_true (show 0<60 by omega),eq_true h0,r1,r2,r3,y3,sw,st]
    have y5:(us.take a).length=a:=by rw[List.length_take];omega
    have y4:By (H1.upd b (.cells [.str cnm,w2] false false)) w2 (us.take a):=⟨by rw[y5];exact y1.other (fun p hp=>z0a (fun e=>O.x (by rw[e];exact y2 p hp))) lr,fun u hu=>O.o.2 u (List.mem_of_mem_take hu)⟩
    exact⟨0,by omega,_,rfl,.inr ⟨rfl,[(cnm,us.take a)],.inr ⟨_,rfl,by omega⟩,z6u z0q O.l y4 O.n (fun p hp=>O.o.1.2 p (y2 p hp)),K1.trans (z0s O.n)⟩⟩
   .have gN:PT.get b (H1.new (.cells [.int .u8 (.ofNat x)] false false)).2.t=some (.cells [.str cnm,w] false false):=(z0d.get b O.l).trans O.g
    obtain⟨w2,H3,a2,G2,K2,fr,fb,nn⟩:=z2u (by':=1) (by omega) O.o.1 K1.nx (row:=[.int .u8 (.ofNat x)]) rfl rfl (by omega)
    have g3:PT.get b H3.t=some (.cells [.str cnm,w] false false):=(fr b O.l O.x).trans O.g
    have sw:=And.intro G2.1.rd.scal G2.1.rd.same
    have st:=z0z g3 (o:=1) (vs:=[w2]) (by rw[z0p sw.1];rfl) rfl
    simp(maxDischargeDepth:=9)only[auX,bq,reduceCtorEq,Nat.reduceEqDiff,zA,aZ,Nat.reduceAnd,t1,t5,t6,le,x1,x2,x3,x4,x5,fo,hl_g O.g,ls,z38 0 (show 0<1 by omega),z0o (i:=0) (k:=1) (by omega),z38 1 (show 0<1 by omega),Nat.reduceMod,eq_true (show 0<1 by omega),eq_true (show 0<60 by omega),eq_true h0,r1,r2,r3,z16 a2,sw,st]
    have e:z0b us++[.int .u8 (.ofNat x)]=z0b (us++[x]):=(z33 us [x]).symm
    rw[e]at G2
    have y4:By (H3.upd b (.cells [.str cnm,w2] false false)) w2 (us++[x]):=⟨by rw[List.length_append];exact G2.1.rd.other (fun p hp=>z0a (fun e=>by have:=fb p hp;have:=O.l;rw[e]at this;omega)) lr,fun u hu=>(List.mem_append.1 hu).elim (O.o.2 u) (fun h=>by rw[List.mem_singleton.1 h];exact hx)⟩
    exact⟨0,by omega,_,rfl,.inr ⟨rfl,[(cnm,us++[x])],.inr ⟨_,rfl,by rw[List.length_append];exact Nat.succ_le_succ hl⟩,z6u z0q (by have:=O.l;show _<H3.nx.toNat;omega) y4 O.n G2.2,(K1.trans K2).trans (z0s O.n)⟩⟩
   .simp(maxDischargeDepth:=9)only[auX,bq,reduceCtorEq,Nat.reduceEqDiff,zA,aZ,Nat.reduceAnd,t1,t5,t6,le,x1,x2,x3,x4,fo,hl_g O.g,ls,z38 0 (show 0<1 by omega),z0o (i:=0) (k:=1) (by omega),z38 1 (show 0<1 by omega),Nat.reduceMod,eq_true (show 0<1 by omega),eq_true (show 0<60 by omega),eq_true h0,r1,r2,r3,q9c,q9b,z16 (q5s O.g)]
    exact⟨0,by omega,_,rfl,.inr ⟨rfl,[],.inl rfl,j2e ⟨_,_,z0q⟩ O.l O.n,K1.trans (z0s O.n)⟩⟩
   .simp(maxDischargeDepth:=9)only[auX,bq,zA,aZ,t1,t5,t6,le,x1,x2,x3,x4,fo,hl_g O.g,ls,z38 0 (show 0<1 by omega),z0o (i:=0) (k:=1) (by omega),z38 1 (show 0<1 by omega),Nat.reduceMod,eq_true (show 0<1 by omega),eq_true (show 0<60 by omega),eq_true h0,r1,r2,r3,k1h,eq_false k1,eq_false k2,eq_false k3,eq_false k4]
    exact⟨0,by omega,_,rfl,.inr ⟨rfl,[(cnm,us)],.inr ⟨_,rfl,by omega⟩,O.files,K1⟩⟩
end
theorem q45{l:List FV}{i:Nat}(hi:i<l.length) :((fvs l).drop (i*2)).take 2=[.str l[i].1,l[i].2.1]:=by
 unfold fvs
 exact z9k (fun f:FV=>[.str f.1,f.2.1]) 2 (fun _=>rfl) l i hi
section
variable{E:Env}(C:Ck E)
include C
theorem y3y{H:AHeap}{n:List Nat}{v w:AVal}{us:List Nat}(h1:By H v us)(h2:By H w us) :∃ H',z0f E 111 [.agg [.str n,v],.agg [.str n,w]] H (.bool true) H'/\Keep H.nx.toNat H H':=by
 have s1:=h1.sc
 have s2:=h2.sc
 have k1:Keep H.nx.toNat H (H.new (.cells [.str n,v] false false)).2:=z0d
 have k2:Keep _ _ ((H.new (.cells [.str n,v] false false)).2.new (.cells [.str n,w] false false)).2:=z0d
 have l1:H.nx.toNat<(H.new (.cells [.str n,v] false false)).2.nx.toNat:=z0h
 have g1:PT.get H.nx ((H.new (.cells [.str n,v] false false)).2.new (.cells [.str n,w] false false)).2.t=some (.cells [.str n,v] false false):=(k2.get _ l1).trans z0i
 have g2:PT.get H.nx.succ ((H.new (.cells [.str n,v] false false)).2.new (.cells [.str n,w] false false)).2.t=some (.cells [.str n,w] false false):=z0i (H:=(H.new (.cells [.str n,v] false false)).2)
 have c:=z9z C (((h1.keep k1 lr).keep k2 lr).str) (((h2.keep k1 lr).keep k2 lr).str)
 rw[z1j,decide_eq_true rfl]at c
 refine⟨_,?_,k1.trans (k2.mono (Nat.le_of_lt l1))⟩
 refine C.c111.re (by conv=>lhs;reduce) ?_
 simp(maxDischargeDepth:=9)only[auX,bq,zA,aZ,hl_g g1,hl_g g2,z0c c,z1j]
theorem j1h{H:AHeap}{v w:AVal}{fs:List (List Nat×List Nat)}(h1:z5l H v fs)(h2:z5l H w fs)(hn:fs.length<=1000000) :∃ H',z0f E 48 [v,w] H (.bool true) H'/\Keep H.nx.toNat H H':=by
 obtain⟨a,a1,a2,a3⟩:=h1
 obtain⟨b,b1,b2,b3⟩:=h2
 have la:a.length=fs.length:=by rw[<-a1,List.length_map]
 have lb:b.length=fs.length:=by rw[<-b1,List.length_map]
 rw[la]at a2
 rw[lb]at b2
 suffices hh:∃ r H',z0f E 48 [v,w] H r H'/\(r=.bool true/\Keep H.nx.toNat H H')from by
  obtain⟨_,H',hc,rfl,k⟩:=hh
  exact⟨H',hc,k⟩
 refine C.c48.rr (by conv=>lhs;reduce) ?_
 simp(maxDischargeDepth:=9)only[auX,a2.len,b2.len]
 refine W.loopI (fun k t H'=>∃ i,i+k=fs.length/\PT.get .h t=some (v)/\PT.get (.o .h) t=some (w)/\PT.get (.o (.i .h)) t=some (.int .i64 (.ofNat i))/\Keep H.nx.toNat H H') ?_ fs.length _ _ ⟨0,by omega,rfl,rfl,rfl,Keep.refl _ _⟩
 rintro k t H' ⟨i,hi,t0,t1,t5,K⟩
 have a4:=a2.keep K lr
 have b4':=b2.keep K lr
 by_cases hk:k=0
 .obtain rfl:i=fs.length:=by omega
  simp(maxDischargeDepth:=9)only[auX,↓reduceIte,t0,t5,a4.len,eq_false (Nat.lt_irrefl fs.length)]
  exact K
 .have hi2:i<fs.length:=by omega
  have ia:i<a.length:=by omega
  have ib:i<b.length:=by omega
  obtain⟨p,o,i1,i2,_⟩:=Rd.at a4 hi2
  obtain⟨p2,o2,j1,j2,_⟩:=Rd.at b4' hi2
  rw[q45 ia]at i2
  rw[q45 ib]at j2
  have ea:(a[i].1,a[i].2.2)=fs[i]:=by simp[<-a1]
  have eb:(b[i].1,b[i].2.2)=fs[i]:=by simp[<-b1]
  have e1:b[i].1=a[i].1:=by have:=congrArg Prod.fst (ea.trans eb.symm);exact this.symm
  have e2:b[i].2.2=a[i].2.2:=by have:=congrArg Prod.snd (ea.trans eb.symm);exact this.symm
  obtain⟨x1,x2⟩:=a3 _ (List.getElem_mem ia)
  obtain⟨y1,y2⟩:=b3 _ (List.getElem_mem ib)
  have X:By H' a[i].2.1 a[i].2.2:=By.keep ⟨x1,x2⟩ K lr
  have Y:By H' b[i].2.1 b[i].2.2:=By.keep ⟨y1,y2⟩ K lr
  rw[e2]at Y
  rw[e1]at j2
  obtain⟨H2,c,K2⟩:=y3y C (n:=a[i].1) X Y
  have i3:=((a4.keep K2 lr))
  have sx:=X.sc
  have sy:=Y.sc
  simp(maxDischargeDepth:=9)only[auX,reduceCtorEq,Nat.reduceAnd,t0,t1,t5,a4.len,hi2,i1,i2,j1,j2,z0j c,z0o (i:=i) (k:=1) (by omega)]
  exact⟨k-1,by omega,i+1,by omega,rfl,K.trans (K2.mono K.nx)⟩
end
section
variable{E:Env}(C:CkS E)
include C
theorem q2i{H:AHeap}{F m l h:Pos}{pv:AVal}{fl:List PF}{nl np ct:Nat}(s:PSt H F m l h pv fl nl np ct){pr:Pos}{fD:AVal}(hp:PT.get pr H.t=some (.cells [.ptr F 0,fD] false false))(hpl:pr.toNat<H.nx.toNat){gs:List PF}(hnm:∀ f∈fl,IsNm f.nm)(hn:fl.length<=1000)(hs:z4t (fl.map PF.nm)=gs.map PF.nm)(hr:z3q (gs.map PF.nm)=true)(hsl:gs.length=fl.length)(hgs:∀ f∈gs,f∈fl)(hb:∀ f∈fl,f.bs.length<=1000000) :
  ∃ v H',z0f E 49 [.ptr pr 0] H v H'/\z5l H' v (gs.map fun f=>(f.nm,f.bs))/\Keep H.nx.toNat H H':=by
 obtain⟨sv,HS,c,r,kS⟩:=q1n C s (fun f hf=>by have:=(hnm f hf).2.1;omega) (by omega) hs hr (by simpa using hsl)
 rw[List.length_map]at r
 refine C.c49.rr (by conv=>lhs;reduce) ?_
 simp(maxDischargeDepth:=9)only[auX,aZ,hl_g hp,z0c c]
 refine W.loopI (fun k t H2=>∃ (i:Nat) (lv:AVal) (fs:List FV),i+k=gs.length/\PT.get .h t=some (.ptr pr 0)/\PT.get (.o (.o .h)) t=some (lv)/\PT.get (.i (.o .h)) t=some (sv)/\PT.get (.o (.i .h)) t=some (.int .i64 (.ofNat i))/\fs.map (fun f=>(f.1,f.2.2))=(gs.map fun f=>(f.nm,f.bs)).take i/\fs.length=i/\GO 2 HS.nx.toNat H2 lv i (fvs fs)/\(∀ f∈fs,Rd 1 H2 f.2.1 f.2.2.length (z0b f.2.2)/\(∀ p,blk f.2.1 p->¬ blk lv p)/\∀ u∈f.2.2,u<256)/\Keep HS.nx.toNat HS H2) ?_ gs.length _ _ ⟨0,.snil,[],by omega,rfl,rfl,rfl,rfl,rfl,rfl,GO.nil,fun f hf=>by(cases hf),Keep.refl _ _⟩
 rintro k t H2 ⟨i,lv,fs,hi,g0,g3,g4,g5,hfs,hfl,hG,hD,hK⟩
 have kk:Keep H.nx.toNat H H2:=kS.trans (hK.mono kS.nx)
 have s2:=s.keep kk lr
 have r2:=r.keep hK lr
 have p2:=(kk.get pr hpl).trans hp
 by_cases hk:k=0
 .obtain rfl:i=gs.length:=by omega
  simp(maxDischargeDepth:=9)only[auX,↓reduceIte,g3,g4,g5,r2.len,show ¬ gs.length<gs.length by omega]
  refine⟨⟨fs,?_,by rw[hfl];exact hG.1.rd,fun f hf=>⟨(hD f hf).1,(hD f hf).2.2⟩⟩,kk⟩
  rw[hfs,List.take_of_length_le (by simp)]
 .have hi2:i<gs.length:=by omega
  have hf:=hgs _ (List.getElem_mem hi2)
  have hbf:=hb _ hf
  have hnf:=hnm _ hf
  obtain⟨bi,oi,i1,i2⟩:=Rd.at1 r2 (i:=i) (x:=.str gs[i].nm) (by simp[hi2])
  obtain⟨H3,c3,K3⟩:=y6c C s2 hf hnf
  have n3:=K3.nx
  have p3:=(K3.get pr (by have:=kk.nx;omega)).trans p2
  obtain⟨bx,ox,x1,x2⟩:=Rd.at1 (r2.keep K3 lr) (i:=i) (x:=.str gs[i].nm) (by simp[hi2])
  rw[i1]at x1
  cases x1
  have s3:=s2.keep K3 lr
  obtain⟨w,H4,c4,B4,K4⟩:=y6q C s3 hf hnf hbf 0 gs[i].bs.length (by omega) (by omega)
  rw[List.drop_zero,List.take_length]at B4
  have n4:=K4.nx
  have K34:=K3.trans (K4.mono n3)
  have p4:=(K34.get pr (by have:=kk.nx;omega)).trans p2
  obtain⟨bx,ox,y1,y2⟩:=Rd.at1 (r2.keep K34 lr) (i:=i) (x:=.str gs[i].nm) (by simp[hi2])
  rw[i1]at y1
  cases y1
  have hkn:=hK.nx
  have hG4:GO 2 HS.nx.toNat H4 lv i (fvs fs):=⟨hG.1.keep K34 lr,hG.2⟩
  obtain⟨w2,H5,a1,G5,K5,fr,fb,nn⟩:=z2u (by':=40) (by omega) hG4 (by omega) (row:=[.str gs[i].nm,w]) rfl (by rw[z0p z9h,z0p B4.by.sc.2.1];rfl) (by omega)
  have ws:=B4.by.sc
  have hl2:=fun p hp=>hG.1.rd.blk_lt p hp
  simp(maxDischargeDepth:=9)only[auX,reduceCtorEq,Nat.reduceAdd,zA,aZ,Nat.reduceAnd,g0,g3,g4,g5,r2.len,hi2,i1,i2,x2,y2,hl_g p2,hl_g p3,z0j c3,z0j c4,ws,z0r a1,z0o (i:=i) (k:=1) (by omega)]
  refine⟨k-1,by omega,i+1,w2,fs++[(gs[i].nm,w,gs[i].bs)],by omega,rfl,rfl,?_,by simp[hfl],?_,?_,(hK.trans (K34.mono hkn)).trans K5⟩
  .rw[List.map_append,hfs,List.take_succ_eq_append_getElem (by simpa using hi2)]
   congr 1
   simp
  .have:fvs (fs++[(gs[i].nm,w,gs[i].bs)])=fvs fs++[.str gs[i].nm,w]:=by simp[fvs]
   rw[this];exact G5
  .intro f hf
   rcases List.mem_append.1 hf with hf | hf
   .obtain⟨y1,y2,y3⟩:=hD f hf
    have y4:=fun p hp=>y1.blk_lt p hp
    refine⟨y1.other (fun p hp=>?_) (by omega),fun p hp hb=>?_,y3⟩
    .rw[fr p (by have:=y4 p hp;omega) (y2 p hp),K34.get p (y4 p hp)]
    .have:=fb p hb;have:=y4 p hp;omega
   .obtain rfl:f=(gs[i].nm,w,gs[i].bs):=by simpa using hf
    have y4:=fun p hp=>B4.1.1.rd.blk_lt p hp
    refine⟨?_,fun p hp hb=>?_,B4.2⟩
    .exact B4.1.1.rd.other (fun p hp=>fr p (y4 p hp) (fun hb=>by have:=B4.1.2 p hp;have:=hl2 p hb;omega)) nn
    .have:=fb p hb;have:=y4 p hp;omega
end
def nowR(files:List (List Nat×Nat))(es:List Ent) :List (List Nat×List Nat):=es.map fun e=>(e.1,(files.getD e.2 ([],0)).1)
section
variable{E:Env}(C:Ck E)
include C
theorem q0l{H:AHeap}{F:Pos}{files:List (List Nat×Nat)}{es:List Ent}{ct:Nat}{S:Pos->Prop}(h:RS H F files [es] 0 ct S)(rb:RB files [es] 0 ct){pr:Pos}{fP:AVal}(hp:PT.get pr H.t=some (.cells [fP,.ptr F 0] false false))(hpl:pr.toNat<H.nx.toNat)(hnm:∀ e∈es,IsNm e.1)(hix:∀ i (hi:i<es.length),ratF es[i].1 es 0=.ofNat i)(hu:∀ f∈files,∀ u∈f.1,u<256) :
  ∃ v H',z0f E 50 [.ptr pr 0] H v H'/\z5l H' v (nowR files es)/\Keep H.nx.toNat H H':=by
 have e1:es.length<=20:=rb.e es (by simp)
 have hfn:=rb.f
 have hctb:=rb.c
 obtain⟨sv,HS,c,r,kS⟩:=q1m C (dirs:=[]) h (by omega) (by simp) (by omega) (by omega) (by omega)
 have rl:Rd 1 HS sv es.length (es.map fun e=>.str e.1):=r.1.rd
 refine C.c50.rr (by conv=>lhs;reduce) ?_
 simp(maxDischargeDepth:=9)only[auX,zA,hl_g hp,z0c c]
 refine W.loopI (fun k t H2=>∃ (i:Nat) (lv:AVal) (fs:List FV),i+k=es.length/\PT.get .h t=some (.ptr pr 0)/\PT.get (.o (.o .h)) t=some (lv)/\PT.get (.i (.o .h)) t=some (sv)/\PT.get (.o (.i .h)) t=some (.int .i64 (.ofNat i))/\fs.map (fun f=>(f.1,f.2.2))=(nowR files es).take i/\fs.length=i/\GO 2 HS.nx.toNat H2 lv i (fvs fs)/\(∀ f∈fs,Rd 1 H2 f.2.1 f.2.2.length (z0b f.2.2)/\(∀ p,blk f.2.1 p->¬ blk lv p)/\∀ u∈f.2.2,u<256)/\Keep HS.nx.toNat HS H2) ?_ es.length _ _ ⟨0,.snil,[],by omega,rfl,rfl,rfl,rfl,rfl,rfl,GO.nil,fun f hf=>by(cases hf),Keep.refl _ _⟩
 rintro k t H2 ⟨i,lv,fs,hi,g0,g3,g4,g5,hfs,hfl,hG,hD,hK⟩
 have kk:Keep H.nx.toNat H H2:=kS.trans (hK.mono kS.nx)
 have s2:=h.keep kk lr
 have r2:=rl.keep hK lr
 have p2:=(kk.get pr hpl).trans hp
 by_cases hk:k=0
 .obtain rfl:i=es.length:=by omega
  simp(maxDischargeDepth:=9)only[auX,↓reduceIte,g3,g4,g5,r2.len,show ¬ es.length<es.length by omega]
  refine⟨⟨fs,?_,by rw[hfl];exact hG.1.rd,fun f hf=>⟨(hD f hf).1,(hD f hf).2.2⟩⟩,kk⟩
  rw[hfs,List.take_of_length_le (by simp[nowR])]
 .have hi2:i<es.length:=by omega
  have hxl:=rb.x es (by simp) _ (List.getElem_mem hi2)
  have hbf:=rb.b _ (List.getElem_mem hxl)
  have hnf:=hnm _ (List.getElem_mem hi2)
  have hui:=hu _ (List.getElem_mem hxl)
  obtain⟨bi,oi,i1,i2⟩:=Rd.at1 r2 (i:=i) (x:=.str es[i].1) (by simp[hi2])
  have c3:=y6b C (dirs:=[]) s2 (by omega) (by simp) (by omega) (by omega) (by omega) hnf (hix i hi2) ⟨hi2,rfl⟩ hxl
  obtain⟨w,H4,c4,G4,K4⟩:=y6p C (dirs:=[]) s2 (by omega) (by simp) (by omega) (by omega) (by omega) hnf (hix i hi2) ⟨hi2,rfl⟩ hxl hbf 0 files[es[i].2].1.length (by omega) (by omega)
  rw[List.drop_zero,List.take_length]at G4
  have B4:Bo H2.nx.toNat H4 w files[es[i].2].1:=⟨G4,hui⟩
  have n4:=K4.nx
  have p4:=(K4.get pr (by have:=kk.nx;omega)).trans p2
  obtain⟨bx,ox,y1,y2⟩:=Rd.at1 (r2.keep K4 lr) (i:=i) (x:=.str es[i].1) (by simp[hi2])
  rw[i1]at y1
  cases y1
  have hkn:=hK.nx
  have hG4:GO 2 HS.nx.toNat H4 lv i (fvs fs):=⟨hG.1.keep K4 lr,hG.2⟩
  obtain⟨w2,H5,a1,G5,K5,fr,fb,nn⟩:=z2u (by':=40) (by omega) hG4 (by omega) (row:=[.str es[i].1,w]) rfl (by rw[z0p z9h,z0p B4.by.sc.2.1];rfl) (by omega)
  have ws:=B4.by.sc
  have hl2:=fun p hp=>hG.1.rd.blk_lt p hp
  simp(maxDischargeDepth:=9)only[auX,reduceCtorEq,Nat.reduceAdd,zA,Nat.reduceAnd,g0,g3,g4,g5,r2.len,hi2,i1,i2,y2,hl_g p2,z0j c3,z0j c4,ws,z0r a1,z0o (i:=i) (k:=1) (by omega)]
  refine⟨k-1,by omega,i+1,w2,fs++[(es[i].1,w,files[es[i].2].1)],by omega,rfl,rfl,?_,by simp[hfl],?_,?_,(hK.trans (K4.mono hkn)).trans K5⟩
  .rw[List.map_append,hfs,List.take_succ_eq_append_getElem (by simpa[nowR]using hi2)]
   congr 1
   simp[nowR,List.getD,hxl]
  .have:fvs (fs++[(es[i].1,w,files[es[i].2].1)])=fvs fs++[.str es[i].1,w]:=by simp[fvs]
   rw[this];exact G5
  .intro f hf
   rcases List.mem_append.1 hf with hf | hf
   .obtain⟨y1,y2,y3⟩:=hD f hf
    have y4:=fun p hp=>y1.blk_lt p hp
    refine⟨y1.other (fun p hp=>?_) (by omega),fun p hp hb=>?_,y3⟩
    .rw[fr p (by have:=y4 p hp;omega) (y2 p hp),K4.get p (y4 p hp)]
    .have:=fb p hb;have:=y4 p hp;omega
   .obtain rfl:f=(es[i].1,w,files[es[i].2].1):=by simpa using hf
    have y4:=fun p hp=>B4.1.1.rd.blk_lt p hp
    refine⟨?_,fun p hp hb=>?_,B4.2⟩
    .exact B4.1.1.rd.other (fun p hp=>fr p (y4 p hp) (fun hb=>by have:=B4.1.2 p hp;have:=hl2 p hb;omega)) nn
    .have:=fb p hb;have:=y4 p hp;omega
end
theorem y8j{H:AHeap} :Keep H.nx.toNat H H.bump:=⟨by show H.nx.toNat<=H.nx.succ.toNat;rw[Pos.toNat_succ];omega,fun p hp=>rfl⟩
theorem k23(H:AHeap) :eqV H (.one .bool) (.bool true) (.bool true)=some true:=rfl
section
variable{E:Env}(C:CkS E)
include C
theorem z67{H:AHeap}{FP m l h:Pos}{pv:AVal}{fl gs:List PF}{ct:Nat}(s:PSt H FP m l h pv fl fl.length 0 ct){FD:Pos}{files:List (List Nat×Nat)}{es:List Ent}{S:Pos->Prop}(r:RS H FD files [es] 0 ct S)(rb:RB files [es] 0 ct){pr:Pos}(hp:PT.get pr H.t=some (.cells [.ptr FP 0,.ptr FD 0] false false))(hpl:pr.toNat<H.nx.toNat)
  (hnmP:∀ f∈fl,IsNm f.nm) (hn:fl.length<=20) (hs:z4t (fl.map PF.nm)=gs.map PF.nm) (hr:z3q (gs.map PF.nm)=true) (hsl:gs.length=fl.length) (hgs:∀ f∈gs,f∈fl) (hb:∀ f∈fl,f.sy<=f.bs.length/\f.bs.length<=1000000)
  (hnm:∀ e∈es,IsNm e.1) (hix:∀ i (hi:i<es.length),ratF es[i].1 es 0=.ofNat i) (hu:∀ f∈files,∀ u∈f.1,u<256) (hsy:∀ f∈files,f.2<=f.1.length)
  (q1:gs.map (fun f=>(f.nm,f.bs))=nowR files es) (q2:gs.map (fun f=>(f.nm,f.bs.take f.sy))=z6d files es) (q3:j16 files [es]=(fl.map (·.bs.length)).sum) :
  ∃ H',z0f E 12 [.ptr pr 0] H (.bool true) H'/\Keep H.nx.toNat H H':=by
 have e1:es.length<=20:=rb.e es (by simp)
 have hl48:(nowR files es).length<=1000000:=by simp[nowR];omega
 have hl49:(z6d files es).length<=1000000:=by simp[z6d];omega
 obtain⟨v1,H1,c1,F1,K1⟩:=q2i C s hp hpl hnmP (by omega) hs hr hsl hgs (fun f hf=>(hb f hf).2)
 have n1:=K1.nx
 obtain⟨v2,H2,c2,F2,K2⟩:=q0l C.toCk (r.keep K1 lr) rb ((K1.get pr hpl).trans hp) (by omega) hnm hix hu
 have n2:=K2.nx
 rw[q1]at F1
 obtain⟨H3,c3,K3⟩:=j1h C.toCk (F1.keep K2 lr) F2 hl48
 have n3:=K3.nx
 have k3:Keep H.nx.toNat H H3:=(K1.trans (K2.mono n1)).trans (K3.mono (by omega))
 obtain⟨v4,H4,c4,F4,K4⟩:=q7c C (s.keep k3 lr) (fun f hf=>by have:=(hnmP f hf).2.1;omega) (by omega) hs hr hsl hgs hb
 have n4:=K4.nx
 have k4:=k3.trans (K4.mono k3.nx)
 obtain⟨v5,H5,c5,F5,K5⟩:=j9p C.toCk (r.keep k4 lr) (by omega) (fun f hf=>⟨rb.b f hf,hsy f hf⟩) (rb.x es (by simp))
 have F5:=F5.r
 have n5:=K5.nx
 have k5:=k4.trans (K5.mono k4.nx)
 rw[q2]at F4
 obtain⟨H6,c6,K6⟩:=j1h C.toCk (F4.keep K5 lr) F5 hl49
 have n6:=K6.nx
 have k6:=k5.trans (K6.mono k5.nx)
 have s6:=s.keep k6 lr
 have r6:=r.keep k6 lr
 have p3:=(k3.get pr hpl).trans hp
 have p4:=(k4.get pr hpl).trans hp
 have p5:=(k5.get pr hpl).trans hp
 have p6:=(k6.get pr hpl).trans hp
 obtain⟨ft,fh⟩:=rb.fit
 have c7:=q6x C s6
 have c8:=q6w C.toCk r6 (by simp) (by simp)
 have c9:=y8z C s6 (by rw[<-q3];omega)
 have kb:Keep H6.nx.toNat H6 H6.bump:=y8j
 have p7:=(kb.get pr (by have:=k6.nx;omega)).trans p6
 obtain⟨H8,c10,K8⟩:=y8y C.toCk (r6.keep kb lr) ft
 have nb:=kb.nx
 have n8:=K8.nx
 have k8:=k6.trans ((kb.trans (K8.mono nb)).mono k6.nx)
 have p8:=(k8.get pr hpl).trans hp
 have c11:=q98 C (s.keep k8 lr)
 have c12:=q97 C.toCk (r.keep k8 lr)
 have c13:=q07 C (s.keep k8 lr)
 have c14:=q06 C.toCk (r.keep k8 lr)
 rw[<-q3]at c9
 simp only[List.length_cons,List.length_nil]at c8
 refine⟨H8,?_,k8⟩
 refine C.c12.re (by conv=>lhs;reduce) ?_
 simp(maxDischargeDepth:=9)only[auX,bq,reduceCtorEq,Nat.reduceSub,zA,aZ,Nat.reduceAnd,z0c c1,z0c c2,z0c c3,hl_g p3,hl_g p4,hl_g p6,hl_g p7,hl_g p8,z0j c4,z0j c5,z0j c6,z0j c7,z0j c8,z0j c9,z0j c10,z0j c11,z0j c12,z0j c13,z0j c14,k23]
end
structure Pr (H:AHeap) (pr FP FD:Pos) (fs:List F3) (nl np ct:Nat) (files:List (List Nat×Nat)) (dirs:List (List Ent)) (nd ctd:Nat) (SP SD:Pos->Prop) :Prop where
 p:PS H FP fs nl np ct SP
 d:RS H FD files dirs nd ctd SD
 g:PT.get pr H.t=some (.cells [.ptr FP 0,.ptr FD 0] false false)
 l:pr.toNat<H.nx.toNat
 x:Dis SP SD
 y:¬ SP pr/\¬ SD pr
theorem Pr.keep{m:Nat}{H H':AHeap}{pr FP FD:Pos}{fs:List F3}{nl np ct:Nat}{files:List (List Nat×Nat)}{dirs:List (List Ent)}{nd ctd:Nat}{SP SD:Pos->Prop}(h:Pr H pr FP FD fs nl np ct files dirs nd ctd SP SD)(k:Keep m H H')(hm:H.nx.toNat<=m) :Pr H' pr FP FD fs nl np ct files dirs nd ctd SP SD :=
 ⟨h.p.keep k hm,h.d.keep k hm,(k.get pr (Nat.lt_of_lt_of_le h.l hm)).trans h.g,Nat.lt_of_lt_of_le h.l k.nx,h.x,h.y⟩
abbrev z9u(N:Nat)(SP SD:Pos->Prop)(H:AHeap)(SP' SD':Pos->Prop)(H':AHeap) :Prop:=Step N (fun p=>SP p\/SD p) H (fun p=>SP' p\/SD' p) H'
theorem Pr.stepP{N:Nat}{H H':AHeap}{pr FP FD:Pos}{fs fs':List F3}{nl np ct nl' np' ct':Nat}{files:List (List Nat×Nat)}{dirs:List (List Ent)}{nd ctd:Nat}{SP SD SP':Pos->Prop}(h:Pr H pr FP FD fs nl np ct files dirs nd ctd SP SD)(hN:N<=H.nx.toNat)(hp:PS H' FP fs' nl' np' ct' SP')(st:Step H.nx.toNat SP H SP' H') :Pr H' pr FP FD fs' nl' np' ct' files dirs nd ctd SP' SD/\z9u N SP SD H SP' SD H':=by
 have ld:=fun z hz=>h.d.lt z hz
 refine⟨⟨hp,h.d.frame (fun z hz=>st.other h.x ld z hz) st.nx,(st.get pr h.l h.y.1).trans h.g,Nat.lt_of_lt_of_le h.l st.nx,st.dis h.x ld,⟨fun e=>by
  rcases st.sub _ e with h1 | h1
  .exact h.y.1 h1
  .have:=h.l;omega,h.y.2⟩⟩,st.nx,fun z hz hs=>st.get z (by omega) (fun e=>hs (.inl e)),fun z hz=>?_,fun z hz=>?_⟩
 .rcases hz with hz | hz
  .rcases st.sub z hz with h1 | h1
   .exact .inl (.inl h1)
   .exact .inr (by omega)
  .exact .inl (.inr hz)
 .rcases hz with hz | hz
  .exact st.top z hz
  .exact Nat.lt_of_lt_of_le (ld z hz) st.nx
theorem Pr.stepD{N:Nat}{H H':AHeap}{pr FP FD:Pos}{fs:List F3}{nl np ct:Nat}{files files':List (List Nat×Nat)}{dirs dirs':List (List Ent)}{nd ctd nd' ctd':Nat}{SP SD SD':Pos->Prop}(h:Pr H pr FP FD fs nl np ct files dirs nd ctd SP SD)(hN:N<=H.nx.toNat)(hp:RS H' FD files' dirs' nd' ctd' SD')(st:Step H.nx.toNat SD H SD' H') :Pr H' pr FP FD fs nl np ct files' dirs' nd' ctd' SP SD'/\z9u N SP SD H SP SD' H':=by
 have lp:=fun z hz=>h.p.lt z hz
 have x':Dis SD SP:=fun z h1 h2=>h.x z h2 h1
 refine⟨⟨h.p.frame (fun z hz=>st.other x' lp z hz) st.nx,hp,(st.get pr h.l h.y.2).trans h.g,Nat.lt_of_lt_of_le h.l st.nx,fun z h1 h2=>st.dis x' lp z h2 h1,⟨h.y.1,fun e=>by
  rcases st.sub _ e with h1 | h1
  .exact h.y.2 h1
  .have:=h.l;omega⟩⟩,st.nx,fun z hz hs=>st.get z (by omega) (fun e=>hs (.inr e)),fun z hz=>?_,fun z hz=>?_⟩
 .rcases hz with hz | hz
  .exact .inl (.inl hz)
  .rcases st.sub z hz with h1 | h1
   .exact .inl (.inr h1)
   .exact .inr (by omega)
 .rcases hz with hz | hz
  .exact Nat.lt_of_lt_of_le (lp z hz) st.nx
  .exact st.top z hz
section
variable{E:Env}(C:CkS E)
include C
theorem y7w{H:AHeap} :∃ pr FP FD H' SP SD,z0f E 5 [.int .i64 (.ofNat 2147483647)] H (.ptr pr 0) H'/\Pr H' pr FP FD [] 0 0 0 [] [[]] 0 0 SP SD/\Keep H.nx.toNat H H'/\(∀ p,SP p\/SD p->H.nx.toNat<=p.toNat)/\H.nx.toNat<=pr.toNat:=by
 obtain⟨FP,H1,SP,c1,P1,K1,b1⟩:=k0o C (H:=H)
 have n1:=K1.nx
 obtain⟨FD,H2,SD,c2,P2,K2,b2⟩:=y11 C.toCk (H:=H1)
 have n2:=K2.nx
 have k3:Keep H2.nx.toNat H2 (H2.new (.cells [.ptr FP 0,.ptr FD 0] false false)).2:=z0d
 have l3:H2.nx.toNat<(H2.new (.cells [.ptr FP 0,.ptr FD 0] false false)).2.nx.toNat:=z0h
 have lp:=fun z hz=>P1.lt z hz
 have ld:=fun z hz=>P2.lt z hz
 refine⟨H2.nx,FP,FD,_,SP,SD,?_,⟨(P1.keep K2 lr).keep k3 lr,P2.keep k3 lr,z0i,l3,fun z h1 h2=>by have:=lp z h1;have:=b2 z h2;omega,⟨fun e=>by have:=lp _ e;omega,fun e=>by have:=ld _ e;omega⟩⟩,(K1.trans (K2.mono n1)).trans (k3.mono (by omega)),fun z hz=>by
  rcases hz with hz | hz
  .exact b1 z hz
  .have:=b2 z hz;omega,by omega⟩
 refine C.c5.re (by conv=>lhs;reduce) ?_
 simp(maxDischargeDepth:=9)only[auX,bq,z0c c1,z0c c2,ep_p]
end
def FX(Q:Pos->Prop)(H:AHeap)(v:AVal)(l:List FV) :Prop:=Rd 2 H v l.length (fvs l)/\(∀ p,blk v p->¬ Q p)/\∀ f∈l,By H f.2.1 f.2.2/\∀ p,blk f.2.1 p->¬ Q p
theorem FX.step{N:Nat}{Q Q':Pos->Prop}{H H':AHeap}{v:AVal}{l:List FV}(h:FX Q H v l)(s:Step N Q H Q' H')(hN:H.nx.toNat<=N) :FX Q' H' v l:=by
 obtain⟨h1,h2,h3⟩:=h
 have key:∀ p,p.toNat<H.nx.toNat->¬ Q p->PT.get p H'.t=PT.get p H.t/\¬ Q' p:=fun p hp hq=>⟨s.get p (by omega) hq,fun e=>by
  rcases s.sub p e with h | h
  .exact hq h
  .omega⟩
 exact⟨h1.other (fun p hp=>(key p (h1.blk_lt p hp) (h2 p hp)).1) s.nx,fun p hp=>(key p (h1.blk_lt p hp) (h2 p hp)).2,fun f hf=>⟨(h3 f hf).1.other (fun p hp=>(key p ((h3 f hf).1.1.blk_lt p hp) ((h3 f hf).2 p hp)).1) s.nx,fun p hp=>(key p ((h3 f hf).1.1.blk_lt p hp) ((h3 f hf).2 p hp)).2⟩⟩
theorem FX.keep{Q:Pos->Prop}{H H':AHeap}{v:AVal}{l:List FV}(h:FX Q H v l)(k:Keep H.nx.toNat H H') :FX Q H' v l :=
 ⟨h.1.keep k lr,h.2.1,fun f hf=>⟨(h.2.2 f hf).1.keep k lr,(h.2.2 f hf).2⟩⟩
theorem FX.load{Q:Pos->Prop}{H:AHeap}{v:AVal}{l:List FV}(h:FX Q H v l){i:Nat}(hi:i<l.length) :∃ b o,z2t 2 v (.int .i64 (.ofNat i))=some (.ptr b o)/\z04 H b o=some (.str l[i].1)/\z04 H b (o+1)=some l[i].2.1:=by
 obtain⟨b,o,h1,h2,_⟩:=h.1.at hi
 have e:((fvs l).drop (i*2)).take 2=[.str l[i].1,l[i].2.1]:=z9k (fun f:FV=>[.str f.1,f.2.1]) 2 (fun _=>rfl) l i hi
 rw[e]at h2
 obtain⟨_,_,h3⟩:=z2e h2
 exact⟨b,o,h1,h3 0 (by simp),h3 1 (by simp)⟩
theorem FX.at{Q:Pos->Prop}{H:AHeap}{v:AVal}{l:List FV}(h:FX Q H v l){i:Nat}(hi:i<l.length) :∃ b o,z2t 2 v (.int .i64 (.ofNat i))=some (.ptr b o)/\∀ (Q':Pos->Prop) H2,FX Q' H2 v l->z04 H2 b o=some (.str l[i].1)/\z04 H2 b (o+1)=some l[i].2.1:=by
 obtain⟨b,o,h1,_⟩:=h.load hi
 refine⟨b,o,h1,fun Q' H2 h2=>?_⟩
 obtain⟨b',o',h3,h4⟩:=h2.load hi
 rw[h1]at h3
 cases h3
 exact h4
theorem z2c.fx{M:Nat}{Q:Pos->Prop}{H:AHeap}{v:AVal}{fs:List (List Nat×List Nat)}(h:z2c M H v fs)(hq:∀ p,Q p->p.toNat<M) :∃ l:List FV,l.map (fun f=>(f.1,f.2.2))=fs/\FX Q H v l:=by
 obtain⟨l,h1,h2,h3,h4⟩:=h
 exact⟨l,h1,h2,fun p hp e=>by have:=h3 p hp;have:=hq p e;omega,fun f hf=>⟨(h4 f hf).1,fun p hp e=>by have:=(h4 f hf).2 p hp;have:=hq p e;omega⟩⟩
def esF:List Ent->Nat->List FV->List Ent
 | es,_,[]=>es
 | es,k,g::gs=>esF (z1k es k g.1) (k+1) gs
def OkF:List Ent->Nat->List (List Nat)->List FV->Prop
 | _,_,_,[]=>True
 | es,k,ns,g::gs=>IsNm g.1/\g.2.2.length<=1000000/\g.1∉ns/\ratF g.1 es 0=.negSucc 0/\(∃ j,ratF g.1 (z1k es k g.1) 0=.ofNat j/\∃ hj:j<(z1k es k g.1).length,(z1k es k g.1)[j].2=k)/\(z1k es k g.1).length<=20/\(∀ e∈z1k es k g.1,e.2<k+1)/\OkF (z1k es k g.1) (k+1) (ns++[g.1]) gs
theorem y72{fs:List F3}{nm:List Nat}(h:nm∉fs.map (·.1))(a c:List Nat)(b d:Nat) :((fs++[(nm,a,b)]).map fun t=>if t.1=nm then(t.1,c,d)else t)=fs++[(nm,c,d)]:=by
 rw[List.map_append]
 congr 1
 .refine(List.map_congr_left fun t ht=>?_).trans (List.map_id _)
  rw[if_neg (fun e=>h (by rw[<-e];exact List.mem_map_of_mem ht))]
  rfl
 .simp
theorem RB.add{files:List (List Nat×Nat)}{dirs:List (List Ent)}{np ct:Nat}(r:RB files dirs np ct){es':List Ent}(h1:files.length<20)(h2:dirs.length<20)(h3:es'.length<=20)(h4:∀ e∈es',e.2<files.length+1)(h5:np<20)(h6:ct<10000) :RB (files++[([],0)]) (dirs++[es']) (np+1) (ct+1):=by
 refine⟨by simp;omega,by simp;omega,fun es he=>?_,fun es he e hee=>?_,fun f hf=>?_,by omega,by omega⟩
 .rcases List.mem_append.1 he with he | he
  .exact r.e es he
  .rw[List.mem_singleton.1 he];exact h3
 .rw[List.length_append]
  rcases List.mem_append.1 he with he | he
  .exact Nat.lt_succ_of_lt (r.x es he e hee)
  .rw[List.mem_singleton.1 he]at hee
   exact h4 e hee
 .rcases List.mem_append.1 hf with hf | hf
  .exact r.b f hf
  .rw[List.mem_singleton.1 hf];simp
section
variable{E:Env}(C:CkS E)
include C
theorem k0y{N:Nat}{H:AHeap}{pr FP FD:Pos}{fs:List F3}{nl np ct:Nat}{files:List (List Nat×Nat)}{dirs:List (List Ent)}{es:List Ent}{nd ctd:Nat}{SP SD:Pos->Prop}(P:Pr H pr FP FD fs nl np ct files (dirs++[es]) nd ctd SP SD)(hN:N<=H.nx.toNat)(rb:RB files (dirs++[es]) nd ctd)(hfl:files.length<20)(hdl:dirs.length<19)(hnd:nd<20)(hcd:ctd<9000)(hnp:np<800)(hct:ct<80000)(hsum:(fs.map (·.2.1.length)).sum<=100000000){v:AVal}{l:List FV}(X:FX (fun p=>SP p\/SD p) H v l){i:Nat}(hi:i<l.length)(ok:IsNm l[i].1/\l[i].2.2.length<=1000000/\l[i].1∉fs.map (·.1)/\ratF l[i].1 es 0=.negSucc 0/\(∃ j,ratF l[i].1 (z1k es files.length l[i].1) 0=.ofNat j/\∃ hj:j<(z1k es files.length l[i].1).length,(z1k es files.length l[i].1)[j].2=files.length)/\(z1k es files.length l[i].1).length<=20/\∀ e∈z1k es files.length l[i].1,e.2<files.length+1) :
  ∃ H1 H2 H3 H4 H5 H6 H7 w SP' SD',z0f E 25 [.ptr FP 0,.str l[i].1] H (.int .i64 (.ofNat 0)) H1/\z0f E 26 [.ptr FD 0,.str l[i].1] H1 (.int .i64 (.ofNat 0)) H2/\z0f E 28 [l[i].2.1] H2 w H3/\z0f E 27 [.ptr FP 0,.str l[i].1,w] H3 (.int .i64 (.ofNat 0)) H4/\z0f E 29 [.ptr FD 0,.str l[i].1,l[i].2.1] H4 (.int .i64 (.ofNat 0)) H5/\z0f E 30 [.ptr FP 0,.str l[i].1] H5 (.int .i64 (.ofNat 0)) H6/\z0f E 31 [.ptr FD 0,.str l[i].1] H6 (.int .i64 (.ofNat 0)) H7 ∧
   (z1g w=true/\same w w=true) ∧
   (∀ q∈[H,H1,H2,H3,H4,H5,H6],PT.get pr q.t=some (.cells [.ptr FP 0,.ptr FD 0] false false)/\∃ Q,FX Q q v l) ∧
   Pr H7 pr FP FD (fs++[(l[i].1,l[i].2.2,l[i].2.2.length)]) nl (np+1) (ct+3) (files++[(l[i].2.2,l[i].2.2.length)]) (dirs++[es]++[z1k es files.length l[i].1]) (nd+1) (ctd+3) SP' SD'/\FX (fun p=>SP' p\/SD' p) H7 v l/\z9u N SP SD H SP' SD' H7/\RB (files++[(l[i].2.2,l[i].2.2.length)]) (dirs++[es]++[z1k es files.length l[i].1]) (nd+1) (ctd+3):=by
 obtain⟨o1,o2,o3,o4,⟨j,o5,hj,o5'⟩,o6,o7⟩:=ok
 have Bf:=X.2.2 _ (List.getElem_mem hi)
 generalize hnm:l[i].1=nm at *
 generalize hus:l[i].2.2=us at *
 have el:es.length<=20:=rb.e es (by simp)
 obtain⟨H1,SP1,c1,P1,t1⟩:=y9v C (N:=H.nx.toNat) P.p lr (by omega) (by omega) o1 o3
 obtain⟨P1,T1⟩:=P.stepP lr P1 t1
 have X1:=X.step T1 lr
 have n1:=T1.nx
 obtain⟨H2,SD2,c2,R2,t2⟩:=j8d C.toCk (N:=H1.nx.toNat) P1.d lr (by omega) (by omega) (by omega) (by omega) (by omega) o1 o4
 obtain⟨P2,T2⟩:=P1.stepD lr R2 t2
 have X2:=X1.step T2 lr
 have n2:=T2.nx
 have rb2:=rb.add hfl (by simp;omega) o6 o7 hnd (by omega)
 have b2:By H2 l[i].2.1 us:=by rw[<-hus];exact(X2.2.2 _ (List.getElem_mem hi)).1
 obtain⟨w,H3,c3,G3,K3⟩:=z62 C.toCk b2.1 (by omega)
 have n3:=K3.nx
 have P3:=P2.keep K3 lr
 have X3:=X2.keep K3
 have b3:By H3 w us:=⟨G3.1.rd,b2.2⟩
 obtain⟨H4,SP4,c4,Q4,t4⟩:=q0c C (N:=H3.nx.toNat) P3.p lr (by omega) o1 (k:=0) (List.mem_append_right _ (List.mem_singleton.2 rfl)) b3 o2 (by simp;omega)
 rw[y72 o3]at Q4
 obtain⟨P4,T4⟩:=P3.stepP lr Q4 t4
 have X4:=X3.step T4 lr
 have n4:=T4.nx
 have b4:By H4 l[i].2.1 us:=by rw[<-hus];exact(X4.2.2 _ (List.getElem_mem hi)).1
 obtain⟨ft,hh⟩:=rb2.fit
 have e0:(files++[(([] :List Nat),0)])[files.length]'(by simp)=([],0):=by simp
 obtain⟨H5,SD5,c5,R5,t5⟩:=j8p C.toCk (N:=H4.nx.toNat) P4.d lr (by omega) (by simp;omega) (by simp;omega) (by omega) (by omega) o1 o5 ⟨hj,o5'⟩ (by simp) b4.1 b4.2 ft (by omega) o2
 rw[e0,z79,List.nil_append]at R5
 obtain⟨P5,T5⟩:=P4.stepD lr R5 t5
 have X5:=X4.step T5 lr
 have n5:=T5.nx
 obtain⟨H6,SP6,c6,Q6,t6⟩:=q51 C (N:=H5.nx.toNat) P5.p lr (by omega) o1 (us:=us) (k:=0) (List.mem_append_right _ (List.mem_singleton.2 rfl))
 rw[y72 o3]at Q6
 obtain⟨P6,T6⟩:=P5.stepP lr Q6 t6
 have X6:=X5.step T6 lr
 have n6:=T6.nx
 have e1:(files++[(us,0)])[files.length]'(by simp)=(us,0):=by simp
 obtain⟨H7,SD7,c7,R7,t7⟩:=y5s C.toCk (N:=H6.nx.toNat) P6.d lr (by omega) (by simp;omega) (by simp;omega) (by omega) (by omega) o1 o5 ⟨hj,o5'⟩ (by simp) (by rw[e1];exact o2)
 rw[e1,z79]at R7
 obtain⟨P7,T7⟩:=P6.stepD lr R7 t7
 have X7:=X6.step T7 lr
 have st3:z9u N (fun p=>SP1 p) (fun p=>SD2 p) H2 (fun p=>SP1 p) (fun p=>SD2 p) H3:=(K3.mono (by omega)).step (fun p hp=>hp.elim (P2.p.lt p) (P2.d.lt p))
 refine⟨H1,H2,H3,H4,H5,H6,H7,w,SP6,SD7,c1,c2,c3,c4,c5,c6,c7,⟨G3.1.rd.scal,G3.1.rd.same⟩,?_,P7,X7,(((((T1.mono hN).trans (T2.mono (by omega))).trans st3).trans (T4.mono (by omega))).trans ((T5.mono (by omega)).trans (T6.mono (by omega)))).trans (T7.mono (by omega)),?_⟩
 .intro q hq
  simp only[List.mem_cons,List.not_mem_nil,or_false]at hq
  rcases hq with rfl | rfl | rfl | rfl | rfl | rfl | rfl
  .exact⟨P.g,_,X⟩
  .exact⟨P1.g,_,X1⟩
  .exact⟨P2.g,_,X2⟩
  .exact⟨P3.g,_,X3⟩
  .exact⟨P4.g,_,X4⟩
  .exact⟨P5.g,_,X5⟩
  .exact⟨P6.g,_,X6⟩
 .exact rb2.last o2 (by omega)
end
end Go.Am
