import Derived.Test.YtepncpggenncoaaGreatDoorDc16
set_option linter.all false
set_option maxRecDepth 20000
set_option maxHeartbeats 8000000
namespace Go.Am
open Go Go.Proofs
section
variable{E:Env}(C:Ck E)
include C
theorem k1l{H:AHeap}{v:AVal}{xs:List Nat}(h:Rd 1 H v xs.length (ics xs))(hl:xs.length<=1000000)(hg:∀ x∈xs,x<xs.length) :∃ w l H',z0f E 123 [.int .i64 (.ofNat 1),v] H (.tup [w,l,.int .i64 (.ofNat 0)]) H'/\Bo H.nx.toNat H' w (j52 xs)/\LN (fun p=>H.nx.toNat<=p.toNat) H' l (z70 xs)/\Keep H.nx.toNat H H':=by
 have ne (a b:Pos) (h:a.toNat≠b.toNat) :a≠b:=fun e=>h (congrArg _ e)
 have lv:∀ H2,fLen H2 1 v=some (.int .i64 (.ofNat xs.length)):=fun _=>h.len
 have sv:=And.intro h.scal h.same
 obtain⟨H1,hH1⟩ :∃ A,A=(H.new (.cells [.snil] false false)).2:=⟨_,rfl⟩
 have k1:Keep H.nx.toNat H H1:=by rw[hH1];exact z0d
 have n1:H1.nx.toNat=H.nx.toNat+1:=by rw[hH1];exact Pos.toNat_succ _
 have g1:PT.get H.nx H1.t=some (.cells [.snil] false false):=by rw[hH1];exact z0i
 have kk9:=k1
 suffices hh:∃ r H',z0f E 123 [.int .i64 (.ofNat 1),v] H r H'/\(∃ w l,r=.tup [w,l,.int .i64 (.ofNat 0)]/\Bo H.nx.toNat H' w (j52 xs)/\LN (fun p=>H.nx.toNat<=p.toNat) H' l (z70 xs)/\Keep H.nx.toNat H H')from by
  obtain⟨_,H',hc,w,l,rfl,a,b,c⟩:=hh
  exact⟨w,l,H',hc,a,b,c⟩
 refine C.c123.rm (by conv=>lhs;reduce) ?_
 simp(maxDischargeDepth:=9)only[auX,bq,Nat.reduceLT,lv,eq_false (show ¬ 16777216<xs.length by omega)]
 refine W.loopI (fun k t H'=>H=H'/\∃ i,i+k=xs.length/\PT.get .h t=some (.int .i64 (.ofNat 1))/\PT.get (.o .h) t=some (v)/\PT.get (.o (.o (.o .h))) t=some (.int .i64 (.ofNat xs.length))/\PT.get (.i (.o (.o (.i .h)))) t=some (v)/\PT.get (.o (.i (.o (.i .h)))) t=some (.int .i64 (.ofNat xs.length))/\PT.get (.i (.i (.o (.i .h)))) t=some (.int .i64 (.ofNat i))) ?_ xs.length _ _ ⟨rfl,0,by omega,rfl,rfl,rfl,rfl,rfl,rfl⟩
 rintro k t H' ⟨rfl,i,hi,t0,t1,t7,t24,t25,t26⟩
 by_cases hk:0<k
 .have hi2:i<xs.length:=by omega
  obtain⟨b,o,i1,i2⟩:=Rd.at1 h (z8n hi2)
  have ha:=hg _ (List.getElem_mem hi2)
  simp(maxDischargeDepth:=9)only[auX,bq,t0,t1,t7,t24,t25,t26,hi2,i1,i2,eq_false (Nat.not_lt_zero xs[i]),eq_false (show ¬ xs.length<=xs[i]by omega),z0o (i:=i) (k:=1) (by omega)]
  exact⟨k-1,by omega,i+1,by omega,rfl⟩
 .obtain rfl:i=xs.length:=by omega
  simp(maxDischargeDepth:=9)only[auX,↓reduceIte,t1,t25,t26,eq_false (Nat.lt_irrefl xs.length)]
  rw[<-hH1]
  simp(maxDischargeDepth:=9)only[auX,z0c (y0d C (H:=H1) (v:=v) sv),j0m]
  obtain⟨X,hX⟩ :∃ X,X=((H1.new (.cells [v] false false)).2.new (.cells [.int .i64 (.ofNat 200)] false false)).2:=⟨_,rfl⟩
  have sX:H1.nx.succ.toNat=H1.nx.toNat+1:=Pos.toNat_succ _
  have nX:X.nx.toNat=H1.nx.toNat+2:=by rw[hX];show H1.nx.succ.succ.toNat=_;rw[Pos.toNat_succ,sX]
  have kX:Keep H1.nx.toNat H1 X:=by rw[hX];exact z0d.trans (z0d.mono (Nat.le_of_lt z0h))
  have xa:PT.get H1.nx X.t=some (.cells [v] false false):=by
   rw[hX]
   exact((z0d (H:=(H1.new (.cells [v] false false)).2)).get H1.nx z0h).trans z0i
  have xb:PT.get H1.nx.succ X.t=some (.cells [.int .i64 (.ofNat 200)] false false):=by
   rw[hX]
   exact z0i (H:=(H1.new (.cells [v] false false)).2)
  rw[<-hX]
  refine W.chunks C (a:=H1.nx) (b:=H1.nx.succ) (v:=v) (cs:=ics xs) (n:=xs.length) (by simp(maxDischargeDepth:=9)only[auX]) (by omega) (fun L Y hL hY=>?_)
  have sY:X.nx.succ.toNat=X.nx.toNat+1:=Pos.toNat_succ _
  have nY:Y.nx.toNat=X.nx.toNat+2:=by rw[hY];show X.nx.succ.succ.toNat=_;rw[Pos.toNat_succ,sY]
  have kY:Keep X.nx.toNat X Y:=by rw[hY];exact z0d.trans (z0d.mono (Nat.le_of_lt z0h))
  have ym:PT.get X.nx Y.t=some (.dfr true):=by
   rw[hY]
   exact((z0d (H:=(X.new (.dfr true)).2) (x:=.loop L)).get X.nx z0h).trans z0i
  have yl:PT.get X.nx.succ Y.t=some (.loop L):=by
   rw[hY]
   exact z0i (H:=(X.new (.dfr true)).2)
  have ya:=(kY.get _ (by omega)).trans xa
  have yb:=(kY.get _ (by omega)).trans xb
  have kkX:Keep H.nx.toNat H X:=kk9.trans (kX.mono (by omega))
  have kkY:=kkX.trans (kY.mono (by omega))
  refine⟨fun j H'=>PT.get X.nx.succ H'.t=some (.loop L)/\PT.get X.nx H'.t=some (.dfr true)/\PT.get H1.nx H'.t=some (.cells [v] false false)/\PT.get H1.nx.succ H'.t=some (.cells [.int .i64 (.ofNat 200)] false false)/\(∃ l,PT.get H.nx H'.t=some (.cells [l] false false)/\LN (fun p=>Y.nx.toNat<=p.toNat) H' l (z5c xs j))/\Y.nx.toNat<=H'.nx.toNat/\Keep H.nx.toNat H H',?_,?_,?_,?_⟩
  .exact⟨yl,ym,ya,yb,⟨.snil,(kY.get _ (by omega)).trans ((kX.get _ (by omega)).trans g1),LN.nil⟩,lr,kkY⟩
  .rintro j H' ⟨e1,e2,e3,e4,e5,e8,e9⟩
   exact⟨e3,e4,h.keep e9 lr,e1⟩
  .rintro j H' wv ⟨e1,e2,e3,e4,⟨l,e6,eL⟩,e8,e9⟩ hjn rw' bw
   have key:∃ bb H5,j0i E X.nx.succ [wv] H' bb H5/\(bb=true/\PT.get X.nx.succ H5.t=some (.loop L)/\PT.get X.nx H5.t=some (.dfr true)/\PT.get H1.nx H5.t=some (.cells [v] false false)/\PT.get H1.nx.succ H5.t=some (.cells [.int .i64 (.ofNat 200)] false false)/\(∃ l,PT.get H.nx H5.t=some (.cells [l] false false)/\LN (fun p=>Y.nx.toNat<=p.toNat) H5 l (z5c xs (j+1)))/\Y.nx.toNat<=H5.nx.toNat/\Keep H.nx.toNat H H5):=by
    subst hL
    refine y1e e1 rfl ?_
    simp(maxDischargeDepth:=9)only[auX]
    refine j44 ?_
    generalize hrb:ALoop.mk .busy _ _ _ _ _ _=rb
    obtain⟨Hb,hHb⟩ :∃ Hb,Hb=H'.upd X.nx.succ (.loop rb):=⟨_,rfl⟩
    rw[<-hHb]
    have bn:Hb.nx=H'.nx:=by rw[hHb];rfl
    have bz:Hb.nx.toNat=H'.nx.toNat:=by rw[bn]
    have bg:∀ p:Pos,p≠X.nx.succ->PT.get p Hb.t=PT.get p H'.t:=fun p hp=>by rw[hHb];exact z0a (Ne.symm hp)
    have lb:PT.get X.nx.succ Hb.t=some (.loop rb):=by rw[hHb];exact z0q
    have bv:∀ p,blk wv p->p.toNat<H.nx.toNat:=fun p hp=>h.blk_lt p (bw p hp)
    generalize hys:(xs.drop (200*j)).take (min 200 (xs.length-200*j))=ys
    have hyl:ys.length=min 200 (xs.length-200*j):=by rw[<-hys,List.length_take,List.length_drop];omega
    have hyr:ys.flatMap b4=j83 xs j:=by rw[<-hys];exact q6g xs j
    rw[q7j,hys,<-hyl]at rw'
    have lw:∀ H2,fLen H2 1 wv=some (.int .i64 (.ofNat ys.length)):=fun _=>rw'.len
    have sw:=And.intro rw'.scal rw'.same
    obtain⟨Hc,hHc⟩ :∃ Hc,Hc=(Hb.new (.cells (repl [.int .u8 (.ofNat 0)] (4*ys.length)) false false)).2:=⟨_,rfl⟩
    have kc:Keep Hb.nx.toNat Hb Hc:=by rw[hHc];exact z0d
    have nc:Hc.nx.toNat=Hb.nx.toNat+1:=by rw[hHc];exact Pos.toNat_succ _
    have gc:PT.get Hb.nx Hc.t=some (.cells (repl [.int .u8 (.ofNat 0)] (4*ys.length)) false false):=by rw[hHc];exact z0i
    have rc:Rd 1 Hc wv ys.length (ics ys):=rw'.other (fun p hp=>by
     have:=bv p hp
     rw[kc.get _ (by omega),bg _ (ne _ _ (by omega))]) (by omega)
    obtain⟨Hd,c4,gd,bd⟩:=q7n C rc (fun e=>by have:=bv _ e;omega) gc (by omega) (z2d _ _) (by
     intro x hx
     rw[<-hys]at hx
     have:=hg x (List.mem_of_mem_drop (List.mem_of_mem_take hx))
     omega) (by omega)
    have nd:=bd.nx
    have fd:∀ p:Pos,p.toNat<H'.nx.toNat->p≠X.nx.succ->PT.get p Hd.t=PT.get p H'.t:=fun p hp hq=>by rw[bd.get p (by omega) (ne _ _ (by omega)),kc.get _ (by omega),bg _ hq]
    have Bd:By Hd (.sl Hb.nx 0 (4*ys.length) (4*ys.length) 0) (ys.flatMap b4):=⟨⟨by rw[z1d];omega,.inr ⟨Hb.nx,0,4*ys.length,0,by rw[lf4],by rw[z2x gd,z27 (by rw[z1d];omega),List.drop_zero,Nat.mul_one,<-z1d (ys.flatMap b4),List.take_length],.inl rfl,by rw[lf4];exact lr,by omega⟩⟩,fun u hu=>by
     obtain⟨a,_,ha⟩:=List.mem_flatMap.1 hu
     exact j2p a u ha⟩
    have geb:PT.get H.nx Hb.t=some (.cells [l] false false):=(bg _ (ne _ _ (by omega))).trans e6
    have gec:PT.get H.nx Hc.t=some (.cells [l] false false):=(kc.get _ (by omega)).trans geb
    have ged:PT.get H.nx Hd.t=some (.cells [l] false false):=(fd _ (by omega) (ne _ _ (by omega))).trans e6
    have LG:LN (fun p=>Y.nx.toNat<=p.toNat) Hd l (z5c xs j):=eL.frame (fun p hp hlt=>⟨hp,fd p hlt (ne _ _ (by omega))⟩) (by omega)
    obtain⟨l2,G2,a2,L2,n2,f2⟩:=LG.more (fun p hp=>by omega) Bd (fun p hp=>by
     obtain rfl:p=Hb.nx:=hp
     exact⟨by omega,fun e=>by have:=eL.lt _ e;omega⟩) (by simp[z5c];omega)
    have sl2:=L2.sc
    have sl:=eL.sc
    have gdn:PT.get H.nx (Hd.new (.cells [.sl Hb.nx 0 (4*ys.length) (4*ys.length) 0] false false)).2.t=some (.cells [l] false false):=(z0d.get _ (by omega)).trans ged
    have gd2:PT.get H.nx G2.t=some (.cells [l] false false):=(f2 _ (by omega) (by omega)).trans ged
    have st2:=z0z gd2 (o:=0) (vs:=[l2]) (by rw[z0p sl2.1];rfl) rfl
    rw[hHc]at c4
    have hgec:PT.get H.nx (Hb.new (.cells (repl [.int .u8 (.ofNat 0)] (4*ys.length)) false false)).2.t=some (.cells [l] false false):=by rw[<-hHc];exact gec
    simp(maxDischargeDepth:=9)only[auX,reduceCtorEq,Nat.reduceAnd,lw,sl,hl_g geb,j0l (i:=4) (k:=ys.length) (by omega),k1o (bytes:=1) (n:=0) (c:=4*ys.length) ⟨by omega,by omega,by omega⟩,z0j c4,hl_g ged,z16 a2,sl2,st2]
    have fin:∀ p:Pos,p.toNat<H'.nx.toNat->p.toNat<Y.nx.toNat->p≠H.nx->p≠X.nx.succ->∀ o,PT.get p ((G2.upd H.nx (.cells [l2] false false)).upd X.nx.succ o).t=PT.get p H'.t:=fun p h1 h2 h3 h5 o=>by
     rw[z0a (Ne.symm h5),z0a (Ne.symm h3),f2 _ (by omega) (by omega),fd _ h1 h5]
    have lb2:PT.get X.nx.succ (G2.upd H.nx (.cells [l2] false false)).t=some (.loop rb):=by rw[z0a (ne _ _ (by omega)),f2 _ (by omega) (by omega),bd.get _ (by omega) (ne _ _ (by omega)),kc.get _ (by omega)];exact lb
    subst hrb
    refine j9d lb2 ⟨rfl,z0q,?_,?_,?_,⟨l2,?_,?_⟩,?_,?_⟩
    .rw[fin _ (by omega) (by omega) (ne _ _ (by omega)) (ne _ _ (by omega))];exact e2
    .rw[fin _ (by omega) (by omega) (ne _ _ (by omega)) (ne _ _ (by omega))];exact e3
    .rw[fin _ (by omega) (by omega) (ne _ _ (by omega)) (ne _ _ (by omega))];exact e4
    .rw[z0a (ne _ _ (by omega))];exact z0q
    .rw[<-y1c,<-hyr]
     exact L2.frame (fun p hp hlt=>⟨hp,by rw[z0a (ne _ _ (by omega)),z0a (ne _ _ (by omega))]⟩) lr
    .show Y.nx.toNat<=G2.nx.toNat;omega
    .exact⟨by have:=e9.nx;show _<=G2.nx.toNat;omega,fun p hp=>by rw[fin _ (by omega) (by omega) (ne _ _ (by omega)) (ne _ _ (by omega)),e9.get p hp]⟩
   obtain⟨bb,H5,c5,rfl,h5⟩:=key
   exact⟨H5,c5,h5⟩
  .rintro H' ⟨e1,e2,e3,e4,⟨l,e6,eL⟩,e8,e9⟩
   have gd:PT.get H.nx (H'.kill X.nx.succ).t=some (.cells [l] false false):=(z1a (ne _ _ (by omega))).trans e6
   have hlz:LN (fun p=>H.nx.toNat<=p.toNat/\p≠X.nx) (H'.kill X.nx.succ) l (z70 xs):=eL.frame (fun p hp hlt=>⟨⟨by omega,ne _ _ (by omega)⟩,z1a (ne _ _ (by omega))⟩) lr
   have kZ:Keep H.nx.toNat H (H'.kill X.nx.succ):=⟨e9.nx,fun p hp=>(z1a (ne _ _ (by omega))).trans (e9.get p hp)⟩
   have hm:PT.get X.nx (H'.kill X.nx.succ).t=some (.dfr true):=(z1a (ne _ _ (by omega))).trans e2
   have nZ:(H'.kill X.nx.succ).nx=H'.nx:=rfl
   obtain⟨Z,hZ⟩ :∃ Z,Z=H'.kill X.nx.succ:=⟨_,rfl⟩
   rw[<-hZ]at gd hlz kZ nZ hm ⊢
   have gb:gmx xs<=1000000:=k1c (fun x hx=>by have:=hg x hx;omega)
   have cg:=q2c C (h.keep kZ lr) hl
   obtain⟨Z1,hZ1⟩ :∃ A,A=(Z.new (.cells [.int .i64 (.ofNat 1),.int .i64 (.ofNat xs.length),.int .i64 (.ofNat (gmx xs))] false false)).2:=⟨_,rfl⟩
   have kZ1:Keep Z.nx.toNat Z Z1:=by rw[hZ1];exact z0d
   have nZ1:=kZ1.nx
   have zlt:Z.nx.toNat=H'.nx.toNat:=by rw[nZ]
   have rz:Rd 1 Z1 (.sl Z.nx 0 3 3 0) 3 (ics [1,xs.length,gmx xs]):=by rw[hZ1];exact j64 rfl
   obtain⟨w,Z2,cw,Bw,kZ2⟩:=q7o C rz (by intro x hx;simp at hx;omega) (by simp)
   rw[q7s]at Bw
   have nZ2:=kZ2.nx
   have gd1:=(kZ1.get _ (by omega)).trans gd
   have gd2:=(kZ2.get _ (by omega)).trans gd1
   have hm2:=(kZ2.get _ (by omega)).trans ((kZ1.get _ (by omega)).trans hm)
   have sl:=hlz.sc
   have sw:=Bw.by.sc
   subst hZ1
   simp(maxDischargeDepth:=9)only[auX,reduceCtorEq,Nat.reduceAnd,t0,t1,t7,hl_g gd,sl,z0j cg,z0j cw,hl_g gd2,j1s hm2]
   refine⟨_,_,rfl,?_,?_,?_⟩
   .exact⟨⟨(Bw.1.1.other (fun p hp=>z1a (ne _ _ (by have:=Bw.1.2 p hp;omega))) lr),fun p hp=>by have:=Bw.1.2 p hp;omega⟩,Bw.2⟩
   .exact hlz.frame (fun p hp hlt=>⟨hp.1,by rw[z1a (Ne.symm hp.2),kZ2.get _ (by omega),kZ1.get _ hlt]⟩) (by show _<=Z2.nx.toNat;omega)
   .exact⟨by have:=kZ.nx;show _<=Z2.nx.toNat;omega,fun p hp=>by rw[z1a (ne _ _ (by omega)),kZ2.get _ (by have:=kZ.nx;omega),kZ1.get _ (by have:=kZ.nx;omega),kZ.get p hp]⟩
end
def dX(ds:List (List Nat)) :List Nat:=ds.flatMap z3d
def dG(n:Nat)(hd:List Nat)(ds:List (List Nat)) :Prop:=(dX ds).length=n/\(∀ x∈dX ds,x<(dX ds).length)/\hd=j52 (dX ds)/\ds=z70 (dX ds)
theorem z49(b:List Nat) :(z3d b).length=b.length/4:=by simp[z3d]
theorem y0l{b:List Nat}{i:Nat}(h:i<b.length/4) :(z3d b).take i++[be4 b (4*i)]=(z3d b).take (i+1):=by
 rw[List.take_succ_eq_append_getElem (by rw[z49];exact h)]
 simp[z3d]
theorem z6z{ds:List (List Nat)}{j:Nat}(h:j<ds.length) :dX (ds.take j)++z3d ds[j]=dX (ds.take (j+1)):=by
 unfold dX
 rw[List.take_succ_eq_append_getElem h,List.flatMap_append]
 simp
theorem k1r(ds:List (List Nat))(j:Nat) :(dX (ds.take j)).length<=(dX ds).length:=by
 have:dX ds=dX (ds.take j)++dX (ds.drop j):=by
  unfold dX
  rw[<-List.flatMap_append,List.take_append_drop]
 rw[this,List.length_append]
 omega
theorem y8t(a b:List Nat) :ics (a++b)=ics a++ics b:=by simp[ics]
section
variable{E:Env}(C:Ck E)
include C
theorem q75{N:Nat}{H:AHeap}{v:AVal}{n:Nat}{cs:List AVal}(h:GO 1 N H v n cs) :∃ w,z0f E 126 [v] H w H/\GO 1 N H w n cs:=by
 have lv:∀ H2,fLen H2 1 v=some (.int .i64 (.ofNat n)):=fun _=>h.1.rd.len
 have sv:=And.intro h.1.rd.scal h.1.rd.same
 have key:∃ w,GO 1 N H w n cs/\∀ {t:PT AVal} {x y:AOpnd},x.ev t=.int .i64 (.ofNat n)->y.ev t=.int .i64 (.ofNat n)->z0w t (.sl 1) v none (some x) (some y)=some w:=by
  obtain⟨⟨hl,⟨rfl,rfl⟩ | ⟨p,z,op,rfl,hg,hz,hlt⟩⟩,hN⟩:=h
  .exact⟨.snil,⟨⟨hl,.inl ⟨rfl,rfl⟩⟩,hN⟩,fun {t x y} hx hy=>by simp only[z0w,bo_n,bo_s hx (Nat.le_refl 0),bo_s hy (Nat.le_refl 0)]⟩
  .refine⟨.sl p 0 n n 0,⟨⟨hl,.inr ⟨p,0,op,rfl,hg,.inl rfl,hlt⟩⟩,fun q hq=>hN q hq⟩,fun {t x y} hx hy=>?_⟩
   have e0:Nat.add 0 (Nat.mul 0 1)=0:=rfl
   rcases hz with rfl | rfl
   .simp only[z0w,bo_s hy (Nat.le_refl n),bo_s hx (Nat.le_refl n),bo_n,nsub,Nat.sub_zero,e0]
    cases Nat.beq n 0<;>rfl
   .simp only[z0w,bo_s hy (Nat.le_refl n),bo_s hx (Nat.le_refl n),bo_n,nsub,Nat.sub_zero]
    cases Nat.beq n 0<;>rfl
 obtain⟨w,hw,s⟩:=key
 have sw:=And.intro hw.1.rd.scal hw.1.rd.same
 refine⟨w,?_,hw⟩
 refine C.c126.re (by conv=>lhs;reduce) ?_
 simp(maxDischargeDepth:=9)only[auX,lv,s]
theorem q2t{H:AHeap}{w v:AVal}{hd:List Nat}{ds:List (List Nat)}{n:Nat}(hw:By H w hd)(hL:LR H v ds)(hl:(dX ds).length<=500000)(hl2:ds.length<=1000000)(hb:∀ b∈ds,b.length<=1000000)(hn:n<=1000000) :∃ r H',z0f E 63 [.int .i64 (.ofNat 1),.int .i64 (.ofNat n),w,v] H r H'/\((¬ dG n hd ds/\r=.tup [.snil,.int .i64 (.ofNat 90)])\/∃ l,dG n hd ds/\r=.tup [l,.int .i64 (.ofNat 0)]/\GO 1 H.nx.toNat H' l (dX ds).length (ics (dX ds)))/\Keep H.nx.toNat H H':=by
 obtain⟨lv,sv⟩:=hL.len
 have sw:=hw.sc
 suffices hh:∃ r H',z0f E 63 [.int .i64 (.ofNat 1),.int .i64 (.ofNat n),w,v] H r H'/\(((¬ dG n hd ds/\r=.tup [.snil,.int .i64 (.ofNat 90)])\/∃ l,dG n hd ds/\r=.tup [l,.int .i64 (.ofNat 0)]/\GO 1 H.nx.toNat H' l (dX ds).length (ics (dX ds)))/\Keep H.nx.toNat H H')from hh
 refine C.c63.rr (by conv=>lhs;reduce) ?_
 simp(maxDischargeDepth:=9)only[auX,lv]
 refine W.loopI (fun k t G=>∃ j a,j+k=ds.length/\GO 1 H.nx.toNat G a (dX (ds.take j)).length (ics (dX (ds.take j)))/\Keep H.nx.toNat H G/\PT.get .h t=some (.int .i64 (.ofNat 1))/\PT.get (.o .h) t=some (.int .i64 (.ofNat n))/\PT.get (.i .h) t=some (w)/\PT.get (.o (.o .h)) t=some (v)/\PT.get (.i (.i (.o .h))) t=some (a)/\PT.get (.o (.i (.o (.o .h)))) t=some (v)/\PT.get (.i (.i (.o (.o .h)))) t=some (.int .i64 (.ofNat ds.length))/\PT.get (.o (.o (.i (.o .h)))) t=some (.int .i64 (.ofNat j))) ?_ ds.length _ _ ⟨0,.snil,by omega,GO.nil,Keep.refl _ _,rfl,rfl,rfl,rfl,rfl,rfl,rfl,rfl⟩
 rintro k t G ⟨j,a,hj,Ga,KG,t0,t1,t2,t3,t10,t17,t18,t19⟩
 have nG:=KG.nx
 have sa:=And.intro Ga.1.rd.scal Ga.1.rd.same
 by_cases hk:k=0
 .obtain rfl:j=ds.length:=by omega
  rw[List.take_length]at Ga
  have la:∀ H2,fLen H2 1 a=some (.int .i64 (.ofNat (dX ds).length)):=fun _=>Ga.1.rd.len
  by_cases hg:∀ x∈dX ds,x<(dX ds).length
  .obtain⟨wh,l,G2,c2,Bh,Ll,k2⟩:=k1l C Ga.1.rd (by omega) hg
   have KK:=KG.trans (k2.mono nG)
   have sh:=Bh.by.sc
   have sl:=Ll.sc
   have cq:=y9k C Bh.by (hw.keep KK lr)
   rw[z1j]at cq
   have hL2:LR G2 v ds:=by
    obtain⟨zs,a,b,c⟩:=hL
    exact⟨zs,a,b.keep KK lr,fun z hz=>(c z hz).keep KK lr⟩
   have ce:=k1i C Ll.lr hL2 (by rw[z8w];omega)
   have Ga2:GO 1 H.nx.toNat G2 a (dX ds).length (ics (dX ds)):=⟨Ga.1.keep k2 lr,Ga.2⟩
   obtain⟨wc,cc,Gc⟩:=q75 C Ga2
   have swc:=And.intro Gc.1.rd.scal Gc.1.rd.same
   by_cases q1:(dX ds).length=n
   .by_cases q2:j52 (dX ds)=hd
    .by_cases q3:z70 (dX ds)=ds
     .rw[decide_eq_true q2]at cq
      rw[decide_eq_true q3]at ce
      simp(maxDischargeDepth:=9)only[auX,bq,↓reduceIte,t0,t1,t2,t3,t10,t18,t19,eq_false (Nat.lt_irrefl ds.length),z0c c2,la,eq_true q1,z0c cq,z0c ce,z0c cc]
      exact⟨.inr ⟨wc,⟨q1,hg,q2.symm,q3.symm⟩,rfl,Gc⟩,KK⟩
     .rw[decide_eq_true q2]at cq
      rw[decide_eq_false q3]at ce
      simp(maxDischargeDepth:=9)only[auX,bq,↓reduceIte,t0,t1,t2,t3,t10,t18,t19,eq_false (Nat.lt_irrefl ds.length),z0c c2,la,eq_true q1,z0c cq,z0c ce]
      exact⟨.inl (fun e=>q3 e.2.2.2.symm),KK⟩
    .rw[decide_eq_false q2]at cq
     simp(maxDischargeDepth:=9)only[auX,bq,↓reduceIte,t0,t1,t2,t10,t18,t19,eq_false (Nat.lt_irrefl ds.length),z0c c2,la,eq_true q1,z0c cq]
     exact⟨.inl (fun e=>q2 e.2.2.1.symm),KK⟩
   .simp(maxDischargeDepth:=9)only[auX,bq,↓reduceIte,t0,t1,t10,t18,t19,eq_false (Nat.lt_irrefl ds.length),z0c c2,la,eq_false q1]
    exact⟨.inl (fun e=>q1 e.1),KK⟩
  .have c2:=y9m C Ga.1.rd (by omega) hg
   simp(maxDischargeDepth:=9)only[auX,reduceCtorEq,↓reduceIte,t0,t10,t18,t19,eq_false (Nat.lt_irrefl ds.length),z0c c2]
   exact⟨.inl (fun e=>hg e.2.1),KG⟩
 .have hj2:j<ds.length:=by omega
  obtain⟨p,o,w0,i1,b0,iK⟩:=hL.at hj2
  have s0:=b0.sc
  have hbl:=hb _ (List.getElem_mem hj2)
  have le1:=k1r ds (j+1)
  rw[<-z6z hj2,List.length_append,z49]at le1
  simp(maxDischargeDepth:=9)only[auX,t17,t18,t19,hj2,i1,iK _ KG,s0,q21 (i:=ds[j].length) (k:=4) (by omega) (by omega)]
  refine W.loopI (fun k2 t D=>∃ i a,i+k2=ds[j].length/4/\GO 1 H.nx.toNat D a ((dX (ds.take j)).length+i) (ics (dX (ds.take j)++(z3d ds[j]).take i))/\Keep H.nx.toNat H D/\PT.get .h t=some (.int .i64 (.ofNat 1))/\PT.get (.o .h) t=some (.int .i64 (.ofNat n))/\PT.get (.i .h) t=some (w)/\PT.get (.o (.o .h)) t=some (v)/\PT.get (.i (.i (.o .h))) t=some (a)/\PT.get (.o (.i (.o (.o .h)))) t=some (v)/\PT.get (.i (.i (.o (.o .h)))) t=some (.int .i64 (.ofNat ds.length))/\PT.get (.o (.o (.i (.o .h)))) t=some (.int .i64 (.ofNat j))/\PT.get (.i (.o (.i .h))) t=some (w0)/\PT.get (.o (.i (.o (.i .h)))) t=some (.int .i64 (.ofNat (ds[j].length/4)))/\PT.get (.i (.i (.o (.i .h)))) t=some (.int .i64 (.ofNat i))) ?_ (ds[j].length/4) _ _ ?_
  rotate_left
  .refine⟨0,a,by omega,by rw[List.take_zero,List.append_nil];exact Ga,KG,?_⟩
   simp(maxDischargeDepth:=9)only[auX,t0,t1,t2,t3,t10,t17,t18,t19]
  rintro k2 t D ⟨i,a,hi,Ga,KD,t0,t1,t2,t3,t10,t17,t18,t19,t12,t25,t26⟩
  by_cases hk2:k2=0
  .obtain rfl:i=ds[j].length/4:=by omega
   rw[<-z49,List.take_length,z6z hj2]at Ga
   simp(maxDischargeDepth:=9)only[auX,↓reduceIte,t0,t1,t2,t3,t10,t17,t18,t19,t25,t26,eq_false (Nat.lt_irrefl (ds[j].length/4)),z0o (i:=j) (k:=1) (by omega)]
   refine⟨k-1,by omega,j+1,a,by omega,?_,KD,rfl,rfl⟩
   rw[<-z6z hj2,List.length_append,z6z hj2]
   exact Ga
  .have hi2:i<ds[j].length/4:=by omega
   have cn:=j1u C (b0.keep KD lr) hbl (k:=i) (by omega)
   obtain⟨a2,D2,ap,G2,K2⟩:=z4q (by':=8) (by omega) Ga KD.nx (row:=[.int .i64 (.ofNat (be4 ds[j] (4*i)))]) rfl rfl (by omega)
   have e:ics (dX (ds.take j)++(z3d ds[j]).take i)++[.int .i64 (.ofNat (be4 ds[j] (4*i)))]=ics (dX (ds.take j)++(z3d ds[j]).take (i+1)):=by
    rw[<-y0l hi2,<-List.append_assoc,y8t _ [_]]
    rfl
   rw[e]at G2
   have sa:=And.intro Ga.1.rd.scal Ga.1.rd.same
   have s2:=And.intro G2.1.rd.scal G2.1.rd.same
   simp(maxDischargeDepth:=9)only[auX,t0,t1,t2,t3,t10,t17,t18,t19,t12,t25,t26,eq_true hi2,z0c cn,z0r ap,z0o (i:=i) (k:=1) (by omega)]
   exact⟨k2-1,by omega,i+1,a2,by omega,G2,KD.trans K2,rfl,rfl⟩
end
instance dGd (n:Nat) (hd:List Nat) (ds:List (List Nat)) :Decidable (dG n hd ds):=by unfold dG;infer_instance
def cC(n:Nat)(o:Option (List Nat)) :List Nat×Nat:=match o with
 | none=>([],190)
 | some us=>match rows us with
  | none=>([],90)
  | some (hd,ds)=>if dG n hd ds then(dX ds,0)else([],90)
theorem y96{n:Nat}{us:List Nat}(h:rows us=none) :cC n (some us)=([],90):=by simp only[cC,h]
theorem q78{n:Nat}{us hd:List Nat}{ds:List (List Nat)}(h:rows us=some (hd,ds))(h2:¬ dG n hd ds) :cC n (some us)=([],90):=by simp only[cC,h,h2,if_false]
theorem y95{n:Nat}{us hd:List Nat}{ds:List (List Nat)}(h:rows us=some (hd,ds))(h2:dG n hd ds) :cC n (some us)=(dX ds,0):=by simp only[cC,h,h2,if_true]
theorem q33:∀ (f c:Nat) (b:List Nat) (l:List (List Nat)),row f c b=some l->(l.map (fun p=>12+p.length)).sum<=b.length
 | 0,_,_,_,h=>by cases h
 | f+1,c,b,l,h=>by
  unfold row at h
  split at h
  .rename_i k p hf
   obtain⟨_,_,_,h4,_⟩:=z1y hf
   split at h
   .cases h2:row f (c+1) (b.drop (12+p.length))with
    | none=>rw[h2]at h;cases h
    | some l2 =>
     rw[h2]at h
     cases h
     have:=q33 f (c+1) _ l2 h2
     rw[List.length_drop]at this
     simp only[List.map_cons,List.sum_cons]
     omega
   .split at h
    .cases h;simp
    .cases h
  .cases h
theorem q3r:∀ l:List (List Nat),l.length<=(l.map (fun p=>12+p.length)).sum/\(∀ b∈l,b.length<=(l.map (fun p=>12+p.length)).sum)/\(dX l).length*4<=(l.map (fun p=>12+p.length)).sum
 | []=>⟨by simp,by simp,by simp[dX]⟩
 | a::l=>by
  obtain⟨h1,h2,h3⟩:=q3r l
  simp only[List.map_cons,List.sum_cons,List.length_cons]
  refine⟨by omega,fun b hb=>?_,?_⟩
  .rcases List.mem_cons.1 hb with rfl | hb
   .omega
   .have:=h2 b hb;omega
  .have e:dX (a::l)=z3d a++dX l:=by simp[dX]
   rw[e,List.length_append,z49]
   omega
theorem j82{us hd:List Nat}{ds:List (List Nat)}(h:rows us=some (hd,ds))(hu:us.length<=1000000) :(dX ds).length<=500000/\ds.length<=1000000/\∀ b∈ds,b.length<=1000000:=by
 unfold rows at h
 split at h
 .rename_i k p hf
  split at h
  .cases h2:row us.length 0 (us.drop (12+p.length))with
   | none=>rw[h2]at h;cases h
   | some l =>
    rw[h2]at h
    cases h
    have h5:=q33 _ _ _ _ h2
    rw[List.length_drop]at h5
    obtain⟨a,b,c⟩:=q3r ds
    exact⟨by omega,by omega,fun x hx=>by have:=b x hx;omega⟩
  .cases h
 .cases h
theorem q7k{xs:List Nat}(h:¬ ∀ x∈xs,x<xs.length) :good (xs.map Int.ofNat)=false:=by
 cases hg:good (xs.map Int.ofNat)with
 | false=>rfl
 | true =>
  exfalso
  refine h fun x hx=>?_
  have:=List.all_eq_true.1 hg (Int.ofNat x) (List.mem_map_of_mem hx)
  have h2:Nat.blt x (xs.map Int.ofNat).length=true:=this
  rw[Nat.blt_eq,List.length_map]at h2
  exact h2
section
variable{E:Env}(C:CkS E)
include C
theorem y9r{H:AHeap}{w v:AVal}{hd:List Nat}{ds:List (List Nat)}{n:Nat}(hw:By H w hd)(hL:LR H v ds)(hl:(dX ds).length<=500000)(hl2:ds.length<=1000000)(hb:∀ b∈ds,b.length<=1000000)(hn:n<=1000000) :∃ r H',z0f E 160 [.int .i64 (.ofNat 1),.int .i64 (.ofNat n),w,v] H r H'/\((¬ dG n hd ds/\r=.tup [.snil,.int .i64 (.ofNat 90)])\/∃ l,dG n hd ds/\r=.tup [l,.int .i64 (.ofNat 0)]/\GO 1 H.nx.toNat H' l (dX ds).length (ics (dX ds)))/\Keep H.nx.toNat H H':=by
 obtain⟨lv,sv⟩:=hL.len
 have sw:=hw.sc
 suffices hh:∃ r H',z0f E 160 [.int .i64 (.ofNat 1),.int .i64 (.ofNat n),w,v] H r H'/\(((¬ dG n hd ds/\r=.tup [.snil,.int .i64 (.ofNat 90)])\/∃ l,dG n hd ds/\r=.tup [l,.int .i64 (.ofNat 0)]/\GO 1 H.nx.toNat H' l (dX ds).length (ics (dX ds)))/\Keep H.nx.toNat H H')from hh
 refine C.c160.rr (by conv=>lhs;reduce) ?_
 simp(maxDischargeDepth:=9)only[auX]
 refine W.loopI (fun k t G=>∃ j a,j+k=ds.length/\GO 1 H.nx.toNat G a (dX (ds.take j)).length (ics (dX (ds.take j)))/\Keep H.nx.toNat H G/\PT.get .h t=some (.int .i64 (.ofNat 1))/\PT.get (.o .h) t=some (.int .i64 (.ofNat n))/\PT.get (.i .h) t=some (w)/\PT.get (.o (.o .h)) t=some (v)/\PT.get (.i (.i (.o .h))) t=some (a)/\PT.get (.o (.o (.i .h))) t=some (.int .i64 (.ofNat j))) ?_ ds.length _ _ ⟨0,.snil,by omega,GO.nil,Keep.refl _ _,rfl,rfl,rfl,rfl,rfl,rfl⟩
 rintro k t G ⟨j,a,hj,Ga,KG,t0,t1,t2,t3,t10,t11⟩
 have nG:=KG.nx
 have sa:=And.intro Ga.1.rd.scal Ga.1.rd.same
 by_cases hk:k=0
 .obtain rfl:j=ds.length:=by omega
  rw[List.take_length]at Ga
  have la:∀ H2,fLen H2 1 a=some (.int .i64 (.ofNat (dX ds).length)):=fun _=>Ga.1.rd.len
  by_cases q1:(dX ds).length=n
  rotate_left
  .simp(maxDischargeDepth:=9)only[auX,↓reduceIte,t1,t3,t10,t11,lv,eq_false (Nat.lt_irrefl ds.length),la,eq_false q1]
   exact⟨.inl (fun e=>q1 e.1),KG⟩
  by_cases hg:∀ x∈dX ds,x<(dX ds).length
  .obtain⟨wh,l,G2,c2,Bh,Ll,k2⟩:=q5c C.toCk Ga.1.rd (by omega) hg
   have KK:=KG.trans (k2.mono nG)
   have sh:=Bh.by.sc
   have sl:=Ll.sc
   have cq:=z9z C.toCk Bh.by.str (hw.keep KK lr).str
   rw[z1j]at cq
   have hL2:LR G2 v ds:=by
    obtain⟨zs,a,b,c⟩:=hL
    exact⟨zs,a,b.keep KK lr,fun z hz=>(c z hz).keep KK lr⟩
   have hLl:LR G2 l (z70 (dX ds)):=by
    obtain⟨ys,a,b,c⟩:=Ll
    exact⟨ys,a,b.1.rd,fun z hz=>(c z hz).1.by⟩
   have ce:=j81 C.toCk hLl hL2 (by rw[z8w];omega)
   have Ga2:GO 1 H.nx.toNat G2 a (dX ds).length (ics (dX ds)):=⟨Ga.1.keep k2 lr,Ga.2⟩
   by_cases q2:j52 (dX ds)=hd
   .by_cases q3:z70 (dX ds)=ds
    .rw[decide_eq_true q2]at cq
     rw[decide_eq_true q3]at ce
     simp(maxDischargeDepth:=9)only[auX,bq,↓reduceIte,t0,t1,t2,t3,t10,t11,lv,eq_false (Nat.lt_irrefl ds.length),la,eq_true q1,z0c c2,z0c cq,z0c ce]
     exact⟨.inr ⟨a,⟨q1,hg,q2.symm,q3.symm⟩,rfl,Ga2⟩,KK⟩
    .rw[decide_eq_true q2]at cq
     rw[decide_eq_false q3]at ce
     simp(maxDischargeDepth:=9)only[auX,bq,↓reduceIte,t0,t1,t2,t3,t10,t11,lv,eq_false (Nat.lt_irrefl ds.length),la,eq_true q1,z0c c2,z0c cq,z0c ce]
     exact⟨.inl (fun e=>q3 e.2.2.2.symm),KK⟩
   .rw[decide_eq_false q2]at cq
    simp(maxDischargeDepth:=9)only[auX,bq,↓reduceIte,t0,t1,t2,t3,t10,t11,lv,eq_false (Nat.lt_irrefl ds.length),la,eq_true q1,z0c c2,z0c cq,z0c ce]
    exact⟨.inl (fun e=>q2 e.2.2.1.symm),KK⟩
  .have e1:zcs ((dX ds).map Int.ofNat)=ics (dX ds):=by simp[zcs,ics]
   have c2:=y25 C.toCk (zs:=(dX ds).map Int.ofNat) (by rw[e1,List.length_map];exact Ga.1.rd) (by rw[List.length_map];omega) (q7k hg)
   have bnil:By G .snil []:=⟨⟨rfl,.inl ⟨rfl,rfl⟩⟩,fun u hu=>by cases hu⟩
   have cq:=z9z C.toCk bnil.str (hw.keep KG lr).str
   have hL2:LR G v ds:=by
    obtain⟨zs,a,b,c⟩:=hL
    exact⟨zs,a,b.keep KG lr,fun z hz=>(c z hz).keep KG lr⟩
   have ce:=j81 C.toCk (v:=.snil) (uss:=[]) ⟨[],rfl,⟨rfl,.inl ⟨rfl,rfl⟩⟩,fun z hz=>by cases hz⟩ hL2 (by simp)
   simp(maxDischargeDepth:=9)only[auX,reduceCtorEq,↓reduceIte,t0,t1,t2,t3,t10,t11,lv,eq_false (Nat.lt_irrefl ds.length),la,eq_true q1,z0c c2,z0c cq,z0c ce]
   exact⟨.inl (fun e=>hg e.2.1),KG⟩
 .have hj2:j<ds.length:=by omega
  obtain⟨p,o,w0,i1,b0,iK⟩:=hL.at hj2
  have s0:=b0.sc
  have hbl:=hb _ (List.getElem_mem hj2)
  have le1:=k1r ds (j+1)
  rw[<-z6z hj2,List.length_append,z49]at le1
  simp(maxDischargeDepth:=9)only[auX,t3,t11,lv,hj2]
  refine W.loopI (fun k2 t D=>∃ i a,i+k2=ds[j].length/4/\GO 1 H.nx.toNat D a ((dX (ds.take j)).length+i) (ics (dX (ds.take j)++(z3d ds[j]).take i))/\Keep H.nx.toNat H D/\PT.get .h t=some (.int .i64 (.ofNat 1))/\PT.get (.o .h) t=some (.int .i64 (.ofNat n))/\PT.get (.i .h) t=some (w)/\PT.get (.o (.o .h)) t=some (v)/\PT.get (.i (.i (.o .h))) t=some (a)/\PT.get (.o (.o (.i .h))) t=some (.int .i64 (.ofNat j))/\PT.get (.i (.o (.i .h))) t=some (.int .i64 (.ofNat (4*i)))) ?_ (ds[j].length/4) _ _ ?_
  rotate_left
  .refine⟨0,a,by omega,by rw[List.take_zero,List.append_nil];exact Ga,KG,?_⟩
   simp(maxDischargeDepth:=9)only[auX,t0,t1,t2,t3,t10,t11]
  rintro k2 t D ⟨i,a,hi,Ga,KD,t0,t1,t2,t3,t10,t11,t12⟩
  by_cases hk2:k2=0
  .obtain rfl:i=ds[j].length/4:=by omega
   rw[<-z49,List.take_length,z6z hj2]at Ga
   simp(maxDischargeDepth:=9)only[auX,↓reduceIte,t0,t1,t2,t3,t10,t11,t12,i1,iK _ KD,s0,z0o (i:=4*(ds[j].length/4)) (k:=4) (by omega),eq_false (show ¬ 4*(ds[j].length/4)+4<=ds[j].length by omega),z0o (i:=j) (k:=1) (by omega)]
   refine⟨k-1,by omega,j+1,a,by omega,?_,KD,rfl,rfl⟩
   rw[<-z6z hj2,List.length_append,z6z hj2]
   exact Ga
  .have hi2:i<ds[j].length/4:=by omega
   have cn:=z8h C.toCk (b0.keep KD lr) hbl (k:=4*i) (by omega)
   obtain⟨a2,D2,ap,G2,K2⟩:=z4q (by':=8) (by omega) Ga KD.nx (row:=[.int .i64 (.ofNat (be4 ds[j] (4*i)))]) rfl rfl (by omega)
   have e:ics (dX (ds.take j)++(z3d ds[j]).take i)++[.int .i64 (.ofNat (be4 ds[j] (4*i)))]=ics (dX (ds.take j)++(z3d ds[j]).take (i+1)):=by
    rw[<-y0l hi2,<-List.append_assoc,y8t _ [_]]
    rfl
   rw[e]at G2
   have sa:=And.intro Ga.1.rd.scal Ga.1.rd.same
   have s2:=And.intro G2.1.rd.scal G2.1.rd.same
   simp(maxDischargeDepth:=9)only[auX,t0,t1,t2,t3,t10,t11,t12,i1,iK _ KD,s0,z0o (i:=4*i) (k:=4) (by omega),eq_true (show 4*i+4<=ds[j].length by omega),z0c cn,z0r ap]
   exact⟨k2-1,by omega,i+1,a2,by omega,G2,KD.trans K2,rfl,by rw[Nat.mul_add]⟩
theorem q6d{H:AHeap}{x y:AVal}{us vs:List Nat}(h1:Rd 1 H x us.length (ics us))(h2:Rd 1 H y vs.length (ics vs))(hl:us.length<=1000000) :z0f E 21 [x,y] H (.bool (decide (us=vs))) H:=by
 have lx:∀ H2,fLen H2 1 x=some (.int .i64 (.ofNat us.length)):=fun _=>h1.len
 have ly:∀ H2,fLen H2 1 y=some (.int .i64 (.ofNat vs.length)):=fun _=>h2.len
 have sx:=And.intro h1.scal h1.same
 have sy:=And.intro h2.scal h2.same
 suffices hh:∃ r H2,z0f E 21 [x,y] H r H2/\(r=.bool (decide (us=vs))/\H2=H)from by
  obtain⟨_,_,hc,rfl,rfl⟩:=hh
  exact hc
 refine C.c21.rr (by conv=>lhs;reduce) ?_
 by_cases hxy:us.length=vs.length
 .simp(maxDischargeDepth:=9)only[auX,lx,ly,eq_true hxy]
  refine W.loopI (fun k t H2=>∃ i,i+k=us.length/\H2=H/\(∀ j (h1:j<us.length) (h2:j<vs.length),j<i->us[j]=vs[j])/\PT.get .h t=some (x)/\PT.get (.o .h) t=some (y)/\PT.get (.o (.i .h)) t=some (.int .i64 (.ofNat i))) ?_ us.length _ _ ⟨0,by omega,rfl,fun j _ _ h=>by omega,rfl,rfl,rfl⟩
  rintro k t H2 ⟨i,hi,rfl,hj,t0,t1,t5⟩
  by_cases hk:k=0
  .obtain rfl:i=us.length:=by omega
   have e:us=vs:=List.ext_getElem hxy (fun j a b=>hj j a b a)
   simp(maxDischargeDepth:=9)only[auX,↓reduceIte,t0,t5,lx,eq_false (Nat.lt_irrefl us.length)]
   rw[decide_eq_true e]
  .have hx:i<us.length:=by omega
   have hy:i<vs.length:=by omega
   obtain⟨p,o,i1,i2⟩:=Rd.at1 h1 (z8n hx)
   obtain⟨q,u,j1,j2⟩:=Rd.at1 h2 (z8n hy)
   by_cases he:us[i]=vs[i]
   .simp(maxDischargeDepth:=9)only[auX,t0,t1,t5,lx,hx,i1,i2,j1,j2,eq_true he,z0o (i:=i) (k:=1) (by omega)]
    refine⟨k-1,by omega,i+1,by omega,fun j a b hji=>?_,rfl⟩
    by_cases ej:j=i
    .subst ej;exact he
    .exact hj j a b (by omega)
   .simp(maxDischargeDepth:=9)only[auX,t0,t1,t5,lx,hx,i1,i2,j1,j2,eq_false he]
    have:¬ us=vs:=fun e=>he (by subst e;rfl)
    simp[this]
 .simp(maxDischargeDepth:=9)only[auX,lx,ly,eq_false hxy]
  have:¬ us=vs:=fun e=>hxy (by rw[e])
  simp[this]
theorem y9x{H:AHeap}{F:Pos}{n crc:Nat}(hm:PHas H F mnm (z1z n crc))(hn:n<=2000)(hcr:crc<4294967296){o:Option (List Nat)}(ho:match o with | none=>PNo H F cnm | some us=>PHas H F cnm us) :∃ l H',z0f E 15 [.ptr F 0] H (.tup [l,.int .i64 (.ofNat (cC n o).2)]) H'/\GO 1 H.nx.toNat H' l (cC n o).1.length (ics (cC n o).1)/\Keep H.nx.toNat H H':=by
 obtain⟨vc,vs,vd,H1,c1,M,k1⟩:=j5l C hm hn hcr
 have sm:=M.1.sc
 obtain⟨H2,hH2⟩ :∃ A,A=(H1.new (.cells (mfc n vc vs vd) false false)).2:=⟨_,rfl⟩
 have k2:Keep H1.nx.toNat H1 H2:=by rw[hH2];exact z0d
 have g2:PT.get H1.nx H2.t=some (.cells (mfc n vc vs vd) false false):=by rw[hH2];exact z0i
 have n2:H1.nx.toNat<H2.nx.toNat:=by rw[hH2];exact z0h
 have kk2:=k1.trans (k2.mono k1.nx)
 have nmR:=j9j C.toCk (H:=H2)
 cases o with
 | none =>
  obtain⟨H3,c3,k3⟩:=q1q C (PNo.keep ho kk2 lr)
  have ce:=y7u C (H:=H3) 82
  rw[if_pos rfl]at ce
  refine⟨.snil,H3,?_,GO.nil,kk2.trans (k3.mono kk2.nx)⟩
  refine C.c15.re (by conv=>lhs;reduce) ?_
  simp(maxDischargeDepth:=9)only[auX,Nat.reduceAdd,zA,aZ,z0c c1,sm]
  rw[<-hH2]
  simp(maxDischargeDepth:=9)only[auX,reduceCtorEq,z0c nmR,z0c c3,cC,z0c ce]
 | some us =>
  have hu:PHas H F cnm us:=ho
  have hb:=hu.b
  obtain⟨r,H3,c3,D,k3⟩:=y77 C (hu.keep kk2 lr)
  have kk3:=kk2.trans (k3.mono kk2.nx)
  rcases D with⟨hr,rfl⟩ | ⟨hd,ds,w,l,hr,rfl,B,L⟩
  .rw[y96 hr]
   have ce:=y7u C (H:=H3) 90
   rw[if_neg (by omega)]at ce
   refine⟨.snil,H3,?_,GO.nil,kk3⟩
   refine C.c15.re (by conv=>lhs;reduce) ?_
   simp(maxDischargeDepth:=9)only[auX,Nat.reduceAdd,zA,aZ,z0c c1,sm]
   rw[<-hH2]
   simp(maxDischargeDepth:=9)only[auX,reduceCtorEq,z0c nmR,z0c c3,z0c ce]
  .have g3:=(k3.get _ n2).trans g2
   obtain⟨b1,b2,b3⟩:=j82 hr hb.1
   obtain⟨r4,H4,c4,D4,k4⟩:=q2t C.toCk B L b1 b2 b3 (show n<=1000000 by omega)
   have sb:=B.sc
   have sl:=L.len.2
   have nk:=kk3.nx
   rcases D4 with⟨hg,rfl⟩ | ⟨l4,hg,rfl,G4⟩
   .rw[q78 hr hg]
    refine⟨.snil,H4,?_,GO.nil,kk3.trans (k4.mono kk3.nx)⟩
    refine C.c15.re (by conv=>lhs;reduce) ?_
    simp(maxDischargeDepth:=9)only[auX,Nat.reduceAdd,zA,aZ,z0c c1,sm]
    rw[<-hH2]
    simp(maxDischargeDepth:=9)only[auX,zA,aZ,z0c nmR,z0c c3,hl_g g3,z0c c4]
   .rw[y95 hr hg]
    have s4:=And.intro G4.1.rd.scal G4.1.rd.same
    refine⟨l4,H4,?_,⟨G4.1,fun p hp=>by have:=G4.2 p hp;omega⟩,kk3.trans (k4.mono kk3.nx)⟩
    refine C.c15.re (by conv=>lhs;reduce) ?_
    simp(maxDischargeDepth:=9)only[auX,Nat.reduceAdd,zA,aZ,z0c c1,sm]
    rw[<-hH2]
    simp(maxDischargeDepth:=9)only[auX,zA,aZ,z0c nmR,z0c c3,hl_g g3,z0c c4]
theorem y4x{H:AHeap}{F:Pos}{n crc:Nat}(hm:RHas H F mnm (z1z n crc))(hn:n<=2000)(hcr:crc<4294967296){o:Option (List Nat)}(ho:match o with | none=>RNo H F cnm | some us=>RHas H F cnm us) :∃ l H',z0f E 102 [.ptr F 0] H (.tup [l,.int .i64 (.ofNat (cC n o).2)]) H'/\GO 1 H.nx.toNat H' l (cC n o).1.length (ics (cC n o).1)/\Keep H.nx.toNat H H':=by
 obtain⟨vc,vs,vd,H1,c1,M,k1⟩:=j5k C.toCk hm hn hcr
 have sm:=M.1.sc
 obtain⟨H2,hH2⟩ :∃ A,A=(H1.new (.cells (mfc n vc vs vd) false false)).2:=⟨_,rfl⟩
 have k2:Keep H1.nx.toNat H1 H2:=by rw[hH2];exact z0d
 have g2:PT.get H1.nx H2.t=some (.cells (mfc n vc vs vd) false false):=by rw[hH2];exact z0i
 have n2:H1.nx.toNat<H2.nx.toNat:=by rw[hH2];exact z0h
 have kk2:=k1.trans (k2.mono k1.nx)
 have nmR:=j9i C.toCk (H:=H2)
 cases o with
 | none =>
  obtain⟨H3,c3,k3⟩:=q1s C (RNo.keep ho kk2 lr)
  refine⟨.snil,H3,?_,GO.nil,kk2.trans (k3.mono kk2.nx)⟩
  refine C.c102.re (by conv=>lhs;reduce) ?_
  simp(maxDischargeDepth:=9)only[auX,Nat.reduceAdd,zA,aZ,z0c c1,sm]
  rw[<-hH2]
  simp(maxDischargeDepth:=9)only[auX,reduceCtorEq,z0c nmR,z0c c3,cC]
 | some us =>
  have hu:RHas H F cnm us:=ho
  have hb:=hu.b
  obtain⟨r,H3,c3,D,k3⟩:=y8a C.toCk (hu.keep kk2 lr)
  have kk3:=kk2.trans (k3.mono kk2.nx)
  rcases D with⟨hr,rfl⟩ | ⟨hd,ds,w,l,hr,rfl,B,L⟩
  .rw[y96 hr]
   refine⟨.snil,H3,?_,GO.nil,kk3⟩
   refine C.c102.re (by conv=>lhs;reduce) ?_
   simp(maxDischargeDepth:=9)only[auX,Nat.reduceAdd,zA,aZ,z0c c1,sm]
   rw[<-hH2]
   simp(maxDischargeDepth:=9)only[auX,reduceCtorEq,Nat.reduceEqDiff,z0c nmR,z0c c3]
  .have g3:=(k3.get _ n2).trans g2
   obtain⟨b1,b2,b3⟩:=j82 hr hb.1
   obtain⟨r4,H4,c4,D4,k4⟩:=y9r C B L b1 b2 b3 (show n<=1000000 by omega)
   have sb:=B.sc
   have sl:=L.len.2
   have nk:=kk3.nx
   rcases D4 with⟨hg,rfl⟩ | ⟨l4,hg,rfl,G4⟩
   .rw[q78 hr hg]
    refine⟨.snil,H4,?_,GO.nil,kk3.trans (k4.mono kk3.nx)⟩
    refine C.c102.re (by conv=>lhs;reduce) ?_
    simp(maxDischargeDepth:=9)only[auX,Nat.reduceAdd,zA,aZ,z0c c1,sm]
    rw[<-hH2]
    simp(maxDischargeDepth:=9)only[auX,reduceCtorEq,zA,aZ,z0c nmR,z0c c3,hl_g g3,z0c c4]
   .rw[y95 hr hg]
    have s4:=And.intro G4.1.rd.scal G4.1.rd.same
    refine⟨l4,H4,?_,⟨G4.1,fun p hp=>by have:=G4.2 p hp;omega⟩,kk3.trans (k4.mono kk3.nx)⟩
    refine C.c102.re (by conv=>lhs;reduce) ?_
    simp(maxDischargeDepth:=9)only[auX,Nat.reduceAdd,zA,aZ,z0c c1,sm]
    rw[<-hH2]
    simp(maxDischargeDepth:=9)only[auX,reduceCtorEq,zA,aZ,z0c nmR,z0c c3,hl_g g3,z0c c4]
end
def PCo(H:AHeap)(F:Pos)(o:Option (List Nat)) :Prop:=match o with | none=>PNo H F cnm | some us=>PHas H F cnm us
def RCo(H:AHeap)(F:Pos)(o:Option (List Nat)) :Prop:=match o with | none=>RNo H F cnm | some us=>RHas H F cnm us
structure QS (H:AHeap) (pr:Pos) (n crc:Nat) (o:Option (List Nat)) (FP FD:Pos) :Prop where
 g:PT.get pr H.t=some (.cells [.ptr FP 0,.ptr FD 0] false false)
 l:pr.toNat<H.nx.toNat
 pm:PHas H FP mnm (z1z n crc)
 rm:RHas H FD mnm (z1z n crc)
 pc:PCo H FP o
 rc:RCo H FD o
theorem QS.keep{m:Nat}{H H':AHeap}{pr FP FD:Pos}{n crc:Nat}{o:Option (List Nat)}(h:QS H pr n crc o FP FD)(k:Keep m H H')(hm:H.nx.toNat<=m) :QS H' pr n crc o FP FD:=by
 refine⟨(k.get pr (Nat.lt_of_lt_of_le h.l hm)).trans h.g,Nat.lt_of_lt_of_le h.l k.nx,h.pm.keep k hm,h.rm.keep k hm,?_,?_⟩
 .have:=h.pc
  cases o with
  | none=>exact PNo.keep this k hm
  | some us=>exact PHas.keep this k hm
 .have:=h.rc
  cases o with
  | none=>exact RNo.keep this k hm
  | some us=>exact RHas.keep this k hm
theorem GO.put{N:Nat}{H:AHeap}{v:AVal}{n:Nat}{cs:List AVal}(h:GO 1 N H v n cs){i:Nat}(hi:i<n){x:AVal}(hx:z1g x=true) :∃ b H',z2t 1 v (.int .i64 (.ofNat i))=some (.ptr b i)/\z05 H b i [x]=some H'/\GO 1 N H' v n (cs.set i x)/\Keep N H H':=by
 obtain⟨⟨h0,⟨rfl,rfl⟩ | ⟨b,z,op,rfl,hg,hz,hb⟩⟩,hN⟩:=h
 .omega
 .have e:z2t 1 (.sl b 0 n n z) (.int .i64 (.ofNat i))=some (.ptr b i):=by
   show(match Nat.blt i n with | true=>some (AVal.ptr b (Nat.add 0 (Nat.mul i 1))) | false=>none)=_
   rw[y41 hi]
   show some (AVal.ptr b (0+i*1))=_
   rw[Nat.zero_add,Nat.mul_one]
  have hp:lput cs i [x]=some (cs.set i x):=by
   rw[z36 _ _ _ (by show i+1<=_;omega),List.set_eq_take_append_cons_drop,if_pos (by omega)]
   simp
  have hNb:=hN b rfl
  refine⟨b,H.upd b (.cells (cs.set i x) op false),e,?_,⟨⟨by rw[List.length_set];exact h0,.inr ⟨b,z,op,rfl,z0q,hz,hb⟩⟩,hN⟩,z0s hNb⟩
  rw[z0z hg (by rw[z0p hx];rfl) (by rw[hp];rfl),hp]
  rfl
abbrev Op7(k:Nat)(v:Int) :List AVal:=[.int .i64 (.ofNat k),.int .i64 v,.int .i64 (.ofNat 0),.int .i64 (.ofNat 0),.snil,.snil,.snil]
section
variable{E:Env}(C:CkS E)
include C
theorem y9z{H:AHeap}{pr FP FD:Pos}{n crc:Nat}{o:Option (List Nat)}(q:QS H pr n crc o FP FD)(hn:n<=2000)(hcr:crc<4294967296)(v:Int) :∃ x e H',z0f E 18 [.ptr FP 0,.int .i64 v] H (.tup [.int .i64 (.ofNat x),.int .i64 (.ofNat e)]) H'/\Keep H.nx.toNat H H'/\∀ G,Keep H.nx.toNat H G->∃ H',z0f E 101 [.ptr FD 0,.int .i64 v] G (.tup [.int .i64 (.ofNat x),.int .i64 (.ofNat e)]) H'/\Keep G.nx.toNat G H':=by
 by_cases hv:∃ a,v=.ofNat a/\a<n
 .obtain⟨a,rfl,ha⟩:=hv
  obtain⟨H1,c,k⟩:=q2w C q.pm hn hcr q.pc ha
  exact⟨_,_,H1,c,k,fun G kG=>y91 C (q.keep kG lr).rm hn hcr (q.keep kG lr).rc ha⟩
 .have hv:∀ a,v=.ofNat a->n<=a:=fun a e=>by
   rcases Nat.lt_or_ge a n with h | h
   .exact absurd ⟨a,e,h⟩ hv
   .exact h
  obtain⟨H1,c,k⟩:=q2v C q.pm hn hcr hv
  exact⟨_,_,H1,c,k,fun G kG=>y9y C (q.keep kG lr).rm hn hcr hv⟩
theorem q8c{H:AHeap}{pr FP FD:Pos}{n crc:Nat}{o:Option (List Nat)}(q:QS H pr n crc o FP FD)(hn:n<=2000)(hcr:crc<4294967296)(v:Int) :∃ H',z0f E 46 [.ptr pr 0,.agg (Op7 4 v)] H (.bool true) H'/\Keep H.nx.toNat H H':=by
 obtain⟨A,hA⟩ :∃ A,A=(H.new (.cells (Op7 4 v) false false)).2:=⟨_,rfl⟩
 have kA:Keep H.nx.toNat H A:=by rw[hA];exact z0d
 have gA:PT.get H.nx A.t=some (.cells (Op7 4 v) false false):=by rw[hA];exact z0i
 have nA:H.nx.toNat<A.nx.toNat:=by rw[hA];exact z0h
 obtain⟨x,e,H1,c1,k1,hR⟩:=y9z C (q.keep kA lr) hn hcr v
 obtain⟨H2,c2,k2⟩:=hR H1 k1
 have n1:=k1.nx
 have gp:=(kA.get _ q.l).trans q.g
 have gp1:=(k1.get _ (by have:=q.l;omega)).trans gp
 have gA1:=(k1.get _ nA).trans gA
 refine⟨H2,?_,(kA.trans (k1.mono (by omega))).trans (k2.mono (by omega))⟩
 refine C.c46.re (by conv=>lhs;reduce) ?_
 simp(maxDischargeDepth:=9)only[auX,aZ,Op7]
 rw[<-hA]
 simp(maxDischargeDepth:=9)only[auX,bq,reduceCtorEq,zA,Nat.reduceAnd,hl_g gA,hl_g gp,z0j c1,hl_g gp1,hl_g gA1,z0j c2,z0c (k0j C.toCk (H:=H2) (.int .i64 (.ofNat e)))]
theorem q8d{H:AHeap}{pr FP FD:Pos}{n crc:Nat}{o:Option (List Nat)}(q:QS H pr n crc o FP FD)(hn:n<=2000)(hcr:crc<4294967296)(v:Int)(hl:(cC n o).1.length<=1000000) :∃ H',z0f E 46 [.ptr pr 0,.agg (Op7 3 v)] H (.bool true) H'/\Keep H.nx.toNat H H':=by
 obtain⟨A,hA⟩ :∃ A,A=(H.new (.cells (Op7 3 v) false false)).2:=⟨_,rfl⟩
 have kA:Keep H.nx.toNat H A:=by rw[hA];exact z0d
 have gA:PT.get H.nx A.t=some (.cells (Op7 3 v) false false):=by rw[hA];exact z0i
 have nA:H.nx.toNat<A.nx.toNat:=by rw[hA];exact z0h
 have qA:=q.keep kA lr
 obtain⟨l,H1,c1,G1,k1⟩:=y9x C qA.pm hn hcr qA.pc
 have q1:=qA.keep k1 lr
 obtain⟨m,H2,c2,G2,k2⟩:=y4x C q1.rm hn hcr q1.rc
 have n1:=k1.nx
 have n2:=k2.nx
 have G1':GO 1 A.nx.toNat H2 l (cC n o).1.length (ics (cC n o).1):=⟨G1.1.keep k2 lr,G1.2⟩
 have c3:=q6d C G1'.1.rd G2.1.rd hl
 rw[decide_eq_true rfl]at c3
 have s1:=And.intro G1.1.rd.scal G1.1.rd.same
 have s2:=And.intro G2.1.rd.scal G2.1.rd.same
 have gp:=qA.g
 have gp1:=q1.g
 have ll:∀ H2,fLen H2 1 l=some (.int .i64 (.ofNat (cC n o).1.length)):=fun _=>G1.1.rd.len
 have K2:=(kA.trans (k1.mono (by omega))).trans (k2.mono (by omega))
 suffices hh:∃ r H',z0f E 46 [.ptr pr 0,.agg (Op7 3 v)] H r H'/\(r=.bool true/\Keep H.nx.toNat H H')from by
  obtain⟨_,H',hc,rfl,k⟩:=hh
  exact⟨H',hc,k⟩
 refine C.c46.rr (by conv=>lhs;reduce) ?_
 simp(maxDischargeDepth:=9)only[auX,Nat.reduceEqDiff,aZ,Op7]
 rw[<-hA]
 simp(maxDischargeDepth:=9)only[auX,zA,hl_g gp,z0c c1,hl_g gp1,z0c c2,z0c c3]
 refine W.loopI (fun k t G=>∃ i cs,i+k=(cC n o).1.length/\GO 1 A.nx.toNat G l (cC n o).1.length cs/\Keep A.nx.toNat A G/\PT.get (.o (.i (.o .h))) t=some (l)/\PT.get (.i (.i (.o .h))) t=some (.int .i64 (.ofNat (cC n o).2))/\PT.get (.i (.o (.i .h))) t=some (.int .i64 (.ofNat (cC n o).2))/\PT.get (.o (.i (.i .h))) t=some (.bool true)/\PT.get (.i (.i (.i .h))) t=some (.int .i64 (.ofNat i))) ?_ (cC n o).1.length _ _ ⟨0,_,by omega,G1',k1.trans (k2.mono n1),rfl,rfl,rfl,rfl,rfl⟩
 rintro k t G ⟨i,cs,hi,Gi,kG,t9,t10,t12,t13,t14⟩
 by_cases hk:k=0
 .obtain rfl:i=(cC n o).1.length:=by omega
  simp(maxDischargeDepth:=9)only[auX,bq,↓reduceIte,t9,t10,t12,t13,t14,ll,eq_false (Nat.lt_irrefl (cC n o).1.length),z0c (k0j C.toCk (H:=G) (.int .i64 (.ofNat (cC n o).2)))]
  exact kA.trans (kG.mono (by omega))
 .have hi2:i<(cC n o).1.length:=by omega
  obtain⟨b,H',i1,i2,G',k'⟩:=Gi.put hi2 (x:=.int .i64 (.negSucc 0)) rfl
  simp(maxDischargeDepth:=9)only[auX,t9,t10,t12,t13,t14,ll,hi2,i1,i2,z0o (i:=i) (k:=1) (by omega)]
  exact⟨k-1,by omega,i+1,_,by omega,G',kG.trans k',rfl⟩
theorem y51{H H':AHeap}{pr:Pos}{k:Nat}{v:Int}(hk:k=3\/k=4)(c:z0f E 46 [.ptr pr 0,.agg (Op7 k v)] (H.new (.cells (Op7 k v) false false)).2 (.bool true) H') :z0f E 11 [.ptr pr 0,.agg (Op7 k v)] H (.bool true) H':=by
 rcases hk with rfl | rfl
 .refine C.c11.re (by conv=>lhs;reduce) ?_
  simp(maxDischargeDepth:=9)only[auX,Nat.reduceEqDiff,aZ,Op7,z0c c]
 .refine C.c11.re (by conv=>lhs;reduce) ?_
  simp(maxDischargeDepth:=9)only[auX,Nat.reduceEqDiff,aZ,Op7,z0c c]
theorem q52{H:AHeap}{pr FP FD:Pos}{n crc:Nat}{o:Option (List Nat)}(q:QS H pr n crc o FP FD)(hn:n<=2000)(hcr:crc<4294967296)(v:Int) :∃ H',z0f E 11 [.ptr pr 0,.agg (Op7 4 v)] H (.bool true) H'/\Keep H.nx.toNat H H':=by
 have k1:Keep H.nx.toNat H (H.new (.cells (Op7 4 v) false false)).2:=z0d
 obtain⟨H',c,k⟩:=q8c C (q.keep k1 lr) hn hcr v
 exact⟨H',y51 C (.inr rfl) c,k1.trans (k.mono k1.nx)⟩
theorem q53{H:AHeap}{pr FP FD:Pos}{n crc:Nat}{o:Option (List Nat)}(q:QS H pr n crc o FP FD)(hn:n<=2000)(hcr:crc<4294967296)(hl:(cC n o).1.length<=1000000) :∃ H',z0f E 11 [.ptr pr 0,.agg (Op7 3 (.ofNat 0))] H (.bool true) H'/\Keep H.nx.toNat H H':=by
 have k1:Keep H.nx.toNat H (H.new (.cells (Op7 3 (.ofNat 0)) false false)).2:=z0d
 obtain⟨H',c,k⟩:=q8d C (q.keep k1 lr) hn hcr (.ofNat 0) hl
 exact⟨H',y51 C (.inl rfl) c,k1.trans (k.mono k1.nx)⟩
end
end Go.Am
