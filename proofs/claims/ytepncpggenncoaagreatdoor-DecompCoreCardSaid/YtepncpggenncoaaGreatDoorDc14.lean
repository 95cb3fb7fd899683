import Derived.Test.YtepncpggenncoaaGreatDoorDc13
set_option linter.all false
set_option maxRecDepth 20000
set_option maxHeartbeats 8000000
namespace Go.Am
open Go Go.Proofs
theorem j64{H:AHeap}{l:List AVal}{n:Nat}(hl:l.length=n) :Rd 1 (H.new (.cells l false false)).2 (.sl H.nx 0 n n 0) n l :=
 ⟨by omega,.inr ⟨H.nx,0,n,0,rfl,by rw[z2x z0i,z27 (by omega),List.drop_zero,Nat.mul_one,<-hl,List.take_length],.inl rfl,lr,z0h⟩⟩
theorem z8j{n crc:Nat}(h:n≠0) :mrow n crc=[b4 n++b4 41++b4 crc++b4 0]:=by unfold mrow;rw[if_neg h]
theorem y70(crc:Nat) :z15 0 crc=[]:=rfl
theorem k22(a b c d:Nat) :[a,b,c,d].flatMap b4=b4 a++b4 b++b4 c++b4 d:=by simp
theorem q7s(a b c:Nat) :[a,b,c].flatMap b4=b4 a++b4 b++b4 c:=by simp
theorem k2d{n j i:Nat}(h:i<min 200 (n-200*j)) :(((zs n).drop (200*j)).take (min 200 (n-200*j)))[i]? = some (.int .i64 (.ofNat 0)):=by
 rw[List.getElem?_take_of_lt h,List.getElem?_drop]
 exact q8f (by omega)
section
variable{E:Env}(C:Ck E)
include C
theorem q2p{H:AHeap}{vc vs vd:AVal}{n crc:Nat}(M:Mf H vc vs vd n crc)(h0:n=0) :∃ w l H',z0f E 304 [.agg (mfc n vc vs vd)] H (.tup [w,l,.int .i64 (.ofNat 0)]) H'/\Bo H.nx.toNat H' w (z6b n)/\LN (fun p=>H.nx.toNat<=p.toNat) H' l (z15 n crc)/\Keep H.nx.toNat H H':=by
 have hn:n<=2000:=by omega
 have k0:Keep H.nx.toNat H (H.new (.cells (mfc n vc vs vd) false false)).2:=z0d
 have l0:H.nx.toNat<(H.new (.cells (mfc n vc vs vd) false false)).2.nx.toNat:=z0h
 have g0:PT.get H.nx (H.new (.cells (mfc n vc vs vd) false false)).2.t=some (.cells (mfc n vc vs vd) false false):=z0i
 obtain⟨H1,c1,K1⟩:=q4n C (M.keep k0 lr) hn
 have n1:=K1.nx
 have kk1:=k0.trans (K1.mono (Nat.le_of_lt l0))
 have g1:PT.get H.nx H1.t=some (.cells (mfc n vc vs vd) false false):=(K1.get H.nx l0).trans g0
 obtain⟨H3,hH3⟩ :∃ A,A=((H1.new (.cells [.snil] false false)).2.new (.cells [.snil] false false)).2:=⟨_,rfl⟩
 have s1:H1.nx.succ.toNat=H1.nx.toNat+1:=Pos.toNat_succ _
 have n3:H3.nx.toNat=H1.nx.toNat+2:=by rw[hH3];show H1.nx.succ.succ.toNat=_;rw[Pos.toNat_succ,s1]
 have K3:Keep H1.nx.toNat H1 H3:=by rw[hH3];exact z0d.trans (z0d.mono (Nat.le_of_lt z0h))
 have gd3:PT.get H1.nx H3.t=some (.cells [.snil] false false):=by
  rw[hH3]
  exact((z0d (H:=(H1.new (.cells [.snil] false false)).2)).get H1.nx z0h).trans z0i
 have ge3:PT.get H1.nx.succ H3.t=some (.cells [.snil] false false):=by
  rw[hH3]
  exact z0i (H:=(H1.new (.cells [.snil] false false)).2)
 have gm3:=(K3.get H.nx (by omega)).trans g1
 have kk3:=kk1.trans (K3.mono (by omega))
 have sc:=M.sc
 have ln:=M.len
 have ne (a b:Pos) (h:a.toNat≠b.toNat) :a≠b:=fun e=>h (congrArg _ e)
 have hl0:(cutL n).length=0:=by rw[h0];rfl
 suffices hh:∃ r H',z0f E 304 [.agg (mfc n vc vs vd)] H r H'/\(∃ w l,r=.tup [w,l,.int .i64 (.ofNat 0)]/\Bo H.nx.toNat H' w (z6b n)/\LN (fun p=>H.nx.toNat<=p.toNat) H' l (z15 n crc)/\Keep H.nx.toNat H H')from by
  obtain⟨_,H',hc,w,l,rfl,a,b,c⟩:=hh
  exact⟨w,l,H',hc,a,b,c⟩
 refine C.c304.rm (by conv=>lhs;reduce) ?_
 simp(maxDischargeDepth:=9)only[auX,zA,mfc,hn_g g0,z0c c1]
 rw[<-hH3]
 simp(maxDischargeDepth:=9)only[auX,hl_g gm3,ln,hl0]
 refine W.loopI (fun k t H'=>H3=H'/\PT.get (.o .h) t=some (.ptr H.nx 0)/\PT.get (.o (.i .h)) t=some (.ptr H1.nx 0)/\PT.get (.i (.i .h)) t=some (.ptr H1.nx.succ 0)/\PT.get (.o (.i (.o (.o .h)))) t=some (.int .i64 (.ofNat 0))/\PT.get (.i (.i (.o (.o .h)))) t=some (.int .i64 (.ofNat 0))) ?_ 0 _ _ ?_
 rotate_left
 .exact⟨rfl,rfl,rfl,rfl,rfl,rfl⟩
 rintro k t H' ⟨rfl,t1,t5,t6,t17,t18⟩
 simp(maxDischargeDepth:=9)only[auX,↓reduceIte,zA,t1,t6,t17,t18,eq_false (Nat.lt_irrefl 0),hl_g ge3,hl_g gm3]
 simp(maxDischargeDepth:=9)only[auX,z0c (y0d C (H:=H3) (v:=vd) ⟨sc.2.2.1,sc.2.2.2.2.2⟩),j0m]
 have kk9:=kk3
 obtain⟨X,hX⟩ :∃ X,X=((H3.new (.cells [vd] false false)).2.new (.cells [.int .i64 (.ofNat 200)] false false)).2:=⟨_,rfl⟩
 have sX:H3.nx.succ.toNat=H3.nx.toNat+1:=Pos.toNat_succ _
 have nX:X.nx.toNat=H3.nx.toNat+2:=by rw[hX];show H3.nx.succ.succ.toNat=_;rw[Pos.toNat_succ,sX]
 have kX:Keep H3.nx.toNat H3 X:=by rw[hX];exact z0d.trans (z0d.mono (Nat.le_of_lt z0h))
 have xa:PT.get H3.nx X.t=some (.cells [vd] false false):=by
  rw[hX]
  exact((z0d (H:=(H3.new (.cells [vd] false false)).2)).get H3.nx z0h).trans z0i
 have xb:PT.get H3.nx.succ X.t=some (.cells [.int .i64 (.ofNat 200)] false false):=by
  rw[hX]
  exact z0i (H:=(H3.new (.cells [vd] false false)).2)
 rw[<-hX]
 refine W.chunks C (a:=H3.nx) (b:=H3.nx.succ) (v:=vd) (cs:=zs n) (n:=n) (by simp(maxDischargeDepth:=9)only[auX]) (by omega) (fun L Y hL hY=>?_)
 have sY:X.nx.succ.toNat=X.nx.toNat+1:=Pos.toNat_succ _
 have nY:Y.nx.toNat=X.nx.toNat+2:=by rw[hY];show X.nx.succ.succ.toNat=_;rw[Pos.toNat_succ,sY]
 have kY:Keep X.nx.toNat X Y:=by rw[hY];exact z0d.trans (z0d.mono (Nat.le_of_lt z0h))
 have ym:PT.get X.nx Y.t=some (.dfr true):=by
  rw[hY]
  exact((z0d (H:=(X.new (.dfr true)).2) (x:=.loop L)).get X.nx z0h).trans z0i
 have yl:PT.get X.nx.succ Y.t=some (.loop L):=by
  rw[hY]
  exact z0i (H:=(X.new (.dfr true)).2)
 have ya:=(kY.get _ (by omega)).trans xa
 have yb:=(kY.get _ (by omega)).trans xb
 have kkX:Keep H.nx.toNat H X:=kk9.trans (kX.mono (by omega))
 have kkY:=kkX.trans (kY.mono (by omega))
 refine⟨fun j H'=>j=0/\H'=Y,⟨rfl,rfl⟩,?_,fun j H' w _ h=>by omega,?_⟩
 .rintro j H' ⟨_,rfl⟩
  exact⟨ya,yb,M.d.keep kkY lr,yl⟩
 .rintro H' ⟨_,rfl⟩
  have gd:PT.get H1.nx (H'.kill X.nx.succ).t=some (.cells [.snil] false false):=(z1a (ne _ _ (by omega))).trans ((kY.get _ (by omega)).trans ((kX.get _ (by omega)).trans gd3))
  have hl:LN (fun p=>H.nx.toNat<=p.toNat/\p≠X.nx) (H'.kill X.nx.succ) .snil (z15 n crc):=by rw[h0];exact LN.nil
  have kZ:Keep H.nx.toNat H (H'.kill X.nx.succ):=⟨kkY.nx,fun p hp=>(z1a (ne _ _ (by omega))).trans (kkY.get p hp)⟩
  have hm:PT.get X.nx (H'.kill X.nx.succ).t=some (.dfr true):=(z1a (ne _ _ (by omega))).trans ym
  have hm':PT.get H.nx (H'.kill X.nx.succ).t=some (.cells (mfc n vc vs vd) false false):=(z1a (ne _ _ (by omega))).trans ((kY.get _ (by omega)).trans ((kX.get _ (by omega)).trans gm3))
  have nZ:(H'.kill X.nx.succ).nx=H'.nx:=rfl
  obtain⟨Z,hZ⟩ :∃ Z,Z=H'.kill X.nx.succ:=⟨_,rfl⟩
  rw[<-hZ]at gd hl kZ nZ hm hm' ⊢
  obtain⟨Z1,hZ1⟩ :∃ A,A=(Z.new (.cells [.int .i64 (.ofNat 1),.int .i64 (.ofNat n),.int .i64 (.ofNat (cutL n).length)] false false)).2:=⟨_,rfl⟩
  have kZ1:Keep Z.nx.toNat Z Z1:=by rw[hZ1];exact z0d
  have nZ1:=kZ1.nx
  have zlt:Z.nx.toNat=H'.nx.toNat:=by rw[nZ]
  have hcl:(cutL n).length<=1:=by unfold cutL;split<;>simp
  have rz:Rd 1 Z1 (.sl Z.nx 0 3 3 0) 3 (ics [1,n,(cutL n).length]):=by rw[hZ1];exact j64 rfl
  obtain⟨w,Z2,cw,Bw,kZ2⟩:=j9v C rz (by intro x hx;simp at hx;omega) (by simp)
  rw[q7s]at Bw
  have nZ2:=kZ2.nx
  have gd1:=(kZ1.get _ (by omega)).trans gd
  have gd2:=(kZ2.get _ (by omega)).trans gd1
  have hm2:=(kZ2.get _ (by omega)).trans ((kZ1.get _ (by omega)).trans hm)
  have sl:=hl.sc
  subst hZ1
  simp(maxDischargeDepth:=9)only[auX,reduceCtorEq,zA,aZ,Nat.reduceAnd,t1,t5,hl_g hm',ln,hl_g gd1,hl_g gd2,sl,z0j cw,j1s hm2]
  refine⟨_,_,rfl,?_,?_,?_⟩
  .exact⟨⟨(Bw.1.1.other (fun p hp=>z1a (ne _ _ (by have:=Bw.1.2 p hp;omega))) lr),fun p hp=>by have:=Bw.1.2 p hp;omega⟩,Bw.2⟩
  .exact hl.frame (fun p hp hlt=>⟨hp.1,by rw[z1a (Ne.symm hp.2),kZ2.get _ (by omega),kZ1.get _ hlt]⟩) (by show _<=Z2.nx.toNat;omega)
  .exact⟨by have:=kZ.nx;show _<=Z2.nx.toNat;omega,fun p hp=>by rw[z1a (ne _ _ (by omega)),kZ2.get _ (by have:=kZ.nx;omega),kZ1.get _ (by have:=kZ.nx;omega),kZ.get p hp]⟩
theorem q2o{H:AHeap}{vc vs vd:AVal}{n crc:Nat}(M:Mf H vc vs vd n crc)(h0:n≠0)(hn:n<=2000)(hcr:crc<4294967296) :∃ w l H',z0f E 304 [.agg (mfc n vc vs vd)] H (.tup [w,l,.int .i64 (.ofNat 0)]) H'/\Bo H.nx.toNat H' w (z6b n)/\LN (fun p=>H.nx.toNat<=p.toNat) H' l (z15 n crc)/\Keep H.nx.toNat H H':=by
 have k0:Keep H.nx.toNat H (H.new (.cells (mfc n vc vs vd) false false)).2:=z0d
 have l0:H.nx.toNat<(H.new (.cells (mfc n vc vs vd) false false)).2.nx.toNat:=z0h
 have g0:PT.get H.nx (H.new (.cells (mfc n vc vs vd) false false)).2.t=some (.cells (mfc n vc vs vd) false false):=z0i
 obtain⟨H1,c1,K1⟩:=q4n C (M.keep k0 lr) hn
 have n1:=K1.nx
 have kk1:=k0.trans (K1.mono (Nat.le_of_lt l0))
 have g1:PT.get H.nx H1.t=some (.cells (mfc n vc vs vd) false false):=(K1.get H.nx l0).trans g0
 obtain⟨H3,hH3⟩ :∃ A,A=((H1.new (.cells [.snil] false false)).2.new (.cells [.snil] false false)).2:=⟨_,rfl⟩
 have s1:H1.nx.succ.toNat=H1.nx.toNat+1:=Pos.toNat_succ _
 have n3:H3.nx.toNat=H1.nx.toNat+2:=by rw[hH3];show H1.nx.succ.succ.toNat=_;rw[Pos.toNat_succ,s1]
 have K3:Keep H1.nx.toNat H1 H3:=by rw[hH3];exact z0d.trans (z0d.mono (Nat.le_of_lt z0h))
 have gd3:PT.get H1.nx H3.t=some (.cells [.snil] false false):=by
  rw[hH3]
  exact((z0d (H:=(H1.new (.cells [.snil] false false)).2)).get H1.nx z0h).trans z0i
 have ge3:PT.get H1.nx.succ H3.t=some (.cells [.snil] false false):=by
  rw[hH3]
  exact z0i (H:=(H1.new (.cells [.snil] false false)).2)
 have gm3:=(K3.get H.nx (by omega)).trans g1
 have kk3:=kk1.trans (K3.mono (by omega))
 have sc:=M.sc
 have ln:=M.len
 have ne (a b:Pos) (h:a.toNat≠b.toNat) :a≠b:=fun e=>h (congrArg _ e)
 have hl1:=z60 h0
 suffices hh:∃ r H',z0f E 304 [.agg (mfc n vc vs vd)] H r H'/\(∃ w l,r=.tup [w,l,.int .i64 (.ofNat 0)]/\Bo H.nx.toNat H' w (z6b n)/\LN (fun p=>H.nx.toNat<=p.toNat) H' l (z15 n crc)/\Keep H.nx.toNat H H')from by
  obtain⟨_,H',hc,w,l,rfl,a,b,c⟩:=hh
  exact⟨w,l,H',hc,a,b,c⟩
 have M3:=M.keep kk3 lr
 obtain⟨b,o,x1,_⟩:=M3.shK (by omega)
 have xn:z0t H3 b o 3=some [.int .i64 (.ofNat 41),.int .u32 (.ofNat crc),.int .i64 (.ofNat 0)]:=by
  have h3:=M3.s
  rw[hl1,show shL n crc=[.int .i64 (.ofNat 41),.int .u32 (.ofNat crc),.int .i64 (.ofNat 0)]by simp[shL,h0]]at h3
  obtain⟨b',o',y1,y2,_⟩:=h3.at (i:=0) (by omega)
  rw[x1]at y1
  cases y1
  exact y2
 obtain⟨A4,hA4⟩ :∃ A,A=(H3.new (.cells [.int .i64 (.ofNat 41),.int .u32 (.ofNat crc),.int .i64 (.ofNat 0)] false false)).2:=⟨_,rfl⟩
 have k4:Keep H3.nx.toNat H3 A4:=by rw[hA4];exact z0d
 have n4:A4.nx.toNat=H3.nx.toNat+1:=by rw[hA4];exact Pos.toNat_succ _
 obtain⟨A5,hA5⟩ :∃ A,A=(A4.new (.cells [.int .i64 (.ofNat n),.int .i64 (.ofNat 41),.int .i64 (.ofNat crc),.int .i64 (.ofNat 0)] false false)).2:=⟨_,rfl⟩
 have k5:Keep A4.nx.toNat A4 A5:=by rw[hA5];exact z0d
 have n5:A5.nx.toNat=A4.nx.toNat+1:=by rw[hA5];exact Pos.toNat_succ _
 have r5:Rd 1 A5 (.sl A4.nx 0 4 4 0) 4 (ics [n,41,crc,0]):=by rw[hA5];exact j64 rfl
 obtain⟨w5,A6,c6,B6,k6⟩:=j9v C r5 (by intro x hx;simp at hx;omega) (by simp)
 rw[k22]at B6
 have n6:=k6.nx
 obtain⟨w6,A7,a7,B7,k7⟩:=z7p (z80 (N:=H3.nx.toNat)) (by omega) B6.by (by simp[z0k])
 rw[List.nil_append]at B7
 have n7:=k7.nx
 have kk7:Keep H3.nx.toNat H3 A7:=((k4.trans (k5.mono (by omega))).trans (k6.mono (by omega))).trans k7
 have gm4:=(k4.get H.nx (by omega)).trans gm3
 have gm5:=(k5.get H.nx (by omega)).trans gm4
 have ge4:=(k4.get H1.nx.succ (by omega)).trans ge3
 have ge5:=(k5.get H1.nx.succ (by omega)).trans ge4
 have ge6:=(k6.get H1.nx.succ (by omega)).trans ge5
 have ge7:=(k7.get H1.nx.succ (by omega)).trans ge6
 have gr4:PT.get H3.nx A4.t=some (.cells [.int .i64 (.ofNat 41),.int .u32 (.ofNat crc),.int .i64 (.ofNat 0)] false false):=by rw[hA4];exact z0i
 obtain⟨cb,co,y1,y2⟩:=(M3.keep k4 lr).cut (by omega)
 have s6:=B7.by.sc
 have st7:=z0z ge7 (o:=0) (vs:=[w6]) (by rw[z0p s6.2.1];rfl) rfl
 obtain⟨H7,hH7⟩ :∃ A,A=A7.upd H1.nx.succ (.cells [w6] false false):=⟨_,rfl⟩
 have n7':H7.nx=A7.nx:=by rw[hH7];rfl
 have g7:∀ p:Pos,p≠H1.nx.succ->PT.get p H7.t=PT.get p A7.t:=fun p hp=>by rw[hH7];exact z0a (Ne.symm hp)
 have ge8:PT.get H1.nx.succ H7.t=some (.cells [w6] false false):=by rw[hH7];exact z0q
 have gd8:PT.get H1.nx H7.t=some (.cells [.snil] false false):=(g7 _ (ne _ _ (by omega))).trans ((kk7.get _ (by omega)).trans gd3)
 have gm8:PT.get H.nx H7.t=some (.cells (mfc n vc vs vd) false false):=(g7 _ (ne _ _ (by omega))).trans ((kk7.get _ (by omega)).trans gm3)
 have b8:By H7 w6 (b4 n++b4 41++b4 crc++b4 0):=B7.by.other (fun p hp=>g7 p (ne _ _ (by have:=B7.1.2 p hp;omega))) (by rw[n7'];exact lr)
 obtain⟨lv,H8,a8,L8,n8,f8⟩:=(LN.nil (A:=fun p=>H3.nx.toNat<=p.toNat) (H:=H7)).more (fun p hp=>by rw[n7']at hp;omega) b8 (fun p hp=>⟨B7.1.2 p hp,fun e=>by cases e⟩) (by simp)
 rw[List.nil_append,<-z8j h0]at L8
 have sl8:=L8.sc
 have z7:H7.nx.toNat=A7.nx.toNat:=by rw[n7']
 have gd9:PT.get H1.nx H8.t=some (.cells [.snil] false false):=(f8 _ (by omega) (by omega)).trans gd8
 have st8:=z0z gd9 (o:=0) (vs:=[lv]) (by rw[z0p sl8.1];rfl) rfl
 obtain⟨H9,hH9⟩ :∃ A,A=H8.upd H1.nx (.cells [lv] false false):=⟨_,rfl⟩
 have n9:H9.nx=H8.nx:=by rw[hH9];rfl
 have z9:H9.nx.toNat=H8.nx.toNat:=by rw[n9]
 have g9:∀ p:Pos,p≠H1.nx->PT.get p H9.t=PT.get p H8.t:=fun p hp=>by rw[hH9];exact z0a (Ne.symm hp)
 have gd10:PT.get H1.nx H9.t=some (.cells [lv] false false):=by rw[hH9];exact z0q
 have ge10:PT.get H1.nx.succ H9.t=some (.cells [w6] false false):=(g9 _ (ne _ _ (by omega))).trans ((f8 _ (by omega) (by omega)).trans ge8)
 have gm10:PT.get H.nx H9.t=some (.cells (mfc n vc vs vd) false false):=(g9 _ (ne _ _ (by omega))).trans ((f8 _ (by omega) (by omega)).trans gm8)
 have kk9:Keep H.nx.toNat H H9:=⟨by have:=kk3.nx;omega,fun p hp=>by
  have:=kk3.nx
  rw[g9 _ (ne _ _ (by omega)),f8 _ (by omega) (by omega),g7 _ (ne _ _ (by omega)),kk7.get _ (by omega),kk3.get p hp]⟩
 have L9:LN (fun p=>H3.nx.toNat<=p.toNat) H9 lv (mrow n crc):=L8.frame (fun p hp _=>⟨hp,g9 p (ne _ _ (by omega))⟩) (by omega)
 refine C.c304.rm (by conv=>lhs;reduce) ?_
 simp(maxDischargeDepth:=9)only[auX,zA,mfc,hn_g g0,z0c c1]
 rw[<-hH3]
 simp(maxDischargeDepth:=9)only[auX,hl_g gm3,ln,hl1]
 refine W.loopI (fun k t H'=>PT.get (.o .h) t=some (.ptr H.nx 0)/\PT.get (.o (.i .h)) t=some (.ptr H1.nx 0)/\PT.get (.i (.i .h)) t=some (.ptr H1.nx.succ 0)/\PT.get (.i (.o (.o (.o .h)))) t=some (vs)/\PT.get (.o (.i (.o (.o .h)))) t=some (.int .i64 (.ofNat 1))/\((k=1/\H3=H'/\PT.get (.i (.i (.o (.o .h)))) t=some (.int .i64 (.ofNat 0)))\/(k=0/\H7=H'/\PT.get (.i (.i (.o (.o .h)))) t=some (.int .i64 (.ofNat 1))))) ?_ 1 _ _ ⟨rfl,rfl,rfl,rfl,rfl,.inl ⟨rfl,rfl,rfl⟩⟩
 rintro k t H' ⟨t1,t5,t6,t16,t17,⟨rfl,rfl,t18⟩ | ⟨rfl,rfl,t18⟩⟩
 .subst hA5
  subst hA4
  simp only[y7t]at c6
  subst hH7
  have wc:z1n .i64 (.ofNat crc)=.ofNat crc:=j00 (by omega)
  have sx:=B6.by.sc
  simp(maxDischargeDepth:=9)only[auX,bq,reduceCtorEq,Nat.reduceLT,Nat.reduceAdd,zA,aZ,Nat.reduceAnd,t1,t5,t6,t16,t17,t18,eq_true (show 0<1 by omega),x1,xn,q9h,Nat.reduceMod,hl_g ge4,hl_g gm4,y1,y2,hl_g gr4,wc,z0j c6,hl_g ge6,z16 a7,s6,st7,z0o (i:=0) (k:=1) (by omega)]
  exact⟨0,by omega,.inr rfl⟩
 .simp(maxDischargeDepth:=9)only[auX,↓reduceIte,Nat.reduceAdd,zA,t1,t5,t6,t17,t18,eq_false (Nat.lt_irrefl 1),hl_g ge8,b8.sc,List.length_append,z0k,eq_true (show 0<16 by omega),hl_g gd8,z0r a8,sl8,st8]
  rw[<-hH9]
  simp(maxDischargeDepth:=9)only[auX,hl_g gm10,z0c (y0d C (H:=H9) (v:=vd) ⟨sc.2.2.1,sc.2.2.2.2.2⟩),j0m]
  obtain⟨X,hX⟩ :∃ X,X=((H9.new (.cells [vd] false false)).2.new (.cells [.int .i64 (.ofNat 200)] false false)).2:=⟨_,rfl⟩
  have sX:H9.nx.succ.toNat=H9.nx.toNat+1:=Pos.toNat_succ _
  have nX:X.nx.toNat=H9.nx.toNat+2:=by rw[hX];show H9.nx.succ.succ.toNat=_;rw[Pos.toNat_succ,sX]
  have kX:Keep H9.nx.toNat H9 X:=by rw[hX];exact z0d.trans (z0d.mono (Nat.le_of_lt z0h))
  have xa:PT.get H9.nx X.t=some (.cells [vd] false false):=by
   rw[hX]
   exact((z0d (H:=(H9.new (.cells [vd] false false)).2)).get H9.nx z0h).trans z0i
  have xb:PT.get H9.nx.succ X.t=some (.cells [.int .i64 (.ofNat 200)] false false):=by
   rw[hX]
   exact z0i (H:=(H9.new (.cells [vd] false false)).2)
  rw[<-hX]
  refine W.chunks C (a:=H9.nx) (b:=H9.nx.succ) (v:=vd) (cs:=zs n) (n:=n) (by simp(maxDischargeDepth:=9)only[auX]) (by omega) (fun L Y hL hY=>?_)
  have sY:X.nx.succ.toNat=X.nx.toNat+1:=Pos.toNat_succ _
  have nY:Y.nx.toNat=X.nx.toNat+2:=by rw[hY];show X.nx.succ.succ.toNat=_;rw[Pos.toNat_succ,sY]
  have kY:Keep X.nx.toNat X Y:=by rw[hY];exact z0d.trans (z0d.mono (Nat.le_of_lt z0h))
  have ym:PT.get X.nx Y.t=some (.dfr true):=by
   rw[hY]
   exact((z0d (H:=(X.new (.dfr true)).2) (x:=.loop L)).get X.nx z0h).trans z0i
  have yl:PT.get X.nx.succ Y.t=some (.loop L):=by
   rw[hY]
   exact z0i (H:=(X.new (.dfr true)).2)
  have ya:=(kY.get _ (by omega)).trans xa
  have yb:=(kY.get _ (by omega)).trans xb
  have kkX:Keep H.nx.toNat H X:=kk9.trans (kX.mono (by omega))
  have kkY:=kkX.trans (kY.mono (by omega))
  have hA:∀ p:Pos,Y.nx.toNat<=p.toNat->(H3.nx.toNat<=p.toNat/\(p.toNat<H9.nx.toNat\/Y.nx.toNat<=p.toNat)):=fun p hp=>⟨by omega,.inr hp⟩
  refine⟨fun j H'=>PT.get X.nx.succ H'.t=some (.loop L)/\PT.get X.nx H'.t=some (.dfr true)/\PT.get H9.nx H'.t=some (.cells [vd] false false)/\PT.get H9.nx.succ H'.t=some (.cells [.int .i64 (.ofNat 200)] false false)/\PT.get H.nx H'.t=some (.cells (mfc n vc vs vd) false false)/\(∃ l,PT.get H1.nx H'.t=some (.cells [l] false false)/\LN (fun p=>H3.nx.toNat<=p.toNat/\(p.toNat<H9.nx.toNat\/Y.nx.toNat<=p.toNat)) H' l (mrow n crc++z1r n j))/\(∃ w,PT.get H1.nx.succ H'.t=some (.cells [w] false false))/\Y.nx.toNat<=H'.nx.toNat/\Keep H.nx.toNat H H',?_,?_,?_,?_⟩
  .refine⟨yl,ym,ya,yb,(kY.get _ (by omega)).trans ((kX.get _ (by omega)).trans gm10),⟨lv,(kY.get _ (by omega)).trans ((kX.get _ (by omega)).trans gd10),?_⟩,⟨w6,(kY.get _ (by omega)).trans ((kX.get _ (by omega)).trans ge10)⟩,lr,kkY⟩
   rw[show z1r n 0=[]from rfl,List.append_nil]
   exact L9.frame (fun p hp hlt=>⟨⟨hp,.inl hlt⟩,(kY.get _ (by omega)).trans (kX.get _ (by omega))⟩) (by omega)
  .rintro j H' ⟨e1,e2,e3,e4,e5,e6,e7,e8,e9⟩
   exact⟨e3,e4,M.d.keep e9 lr,e1⟩
  .rintro j H' wv ⟨e1,e2,e3,e4,e5,⟨l,e6,eL⟩,⟨we,e7⟩,e8,e9⟩ hjn rw' bw
   have key:∃ bb H5,j0i E X.nx.succ [wv] H' bb H5/\(bb=true/\PT.get X.nx.succ H5.t=some (.loop L)/\PT.get X.nx H5.t=some (.dfr true)/\PT.get H9.nx H5.t=some (.cells [vd] false false)/\PT.get H9.nx.succ H5.t=some (.cells [.int .i64 (.ofNat 200)] false false)/\PT.get H.nx H5.t=some (.cells (mfc n vc vs vd) false false)/\(∃ l,PT.get H1.nx H5.t=some (.cells [l] false false)/\LN (fun p=>H3.nx.toNat<=p.toNat/\(p.toNat<H9.nx.toNat\/Y.nx.toNat<=p.toNat)) H5 l (mrow n crc++z1r n (j+1)))/\(∃ w,PT.get H1.nx.succ H5.t=some (.cells [w] false false))/\Y.nx.toNat<=H5.nx.toNat/\Keep H.nx.toNat H H5):=by
    subst hL
    refine y1e e1 rfl ?_
    simp(maxDischargeDepth:=9)only[auX]
    refine j44 ?_
    generalize hrb:ALoop.mk .busy _ _ _ _ _ _=rb
    obtain⟨Hb,hHb⟩ :∃ Hb,Hb=H'.upd X.nx.succ (.loop rb):=⟨_,rfl⟩
    rw[<-hHb]
    have bn:Hb.nx=H'.nx:=by rw[hHb];rfl
    have bz:Hb.nx.toNat=H'.nx.toNat:=by rw[bn]
    have bg:∀ p:Pos,p≠X.nx.succ->PT.get p Hb.t=PT.get p H'.t:=fun p hp=>by rw[hHb];exact z0a (Ne.symm hp)
    have lb:PT.get X.nx.succ Hb.t=some (.loop rb):=by rw[hHb];exact z0q
    have ge:PT.get H1.nx.succ Hb.t=some (.cells [we] false false):=(bg _ (ne _ _ (by omega))).trans e7
    have st0:=z0z ge (o:=0) (vs:=[.snil]) rfl rfl
    obtain⟨Hc,hHc⟩ :∃ Hc,Hc=Hb.upd H1.nx.succ (.cells [.snil] false false):=⟨_,rfl⟩
    have cn:Hc.nx=Hb.nx:=by rw[hHc];rfl
    have cz:Hc.nx.toNat=H'.nx.toNat:=by rw[cn,bz]
    have cg:∀ p:Pos,p≠H1.nx.succ->PT.get p Hc.t=PT.get p Hb.t:=fun p hp=>by rw[hHc];exact z0a (Ne.symm hp)
    have gc:PT.get H1.nx.succ Hc.t=some (.cells [.snil] false false):=by rw[hHc];exact z0q
    have lw:∀ H2,fLen H2 1 wv=some (.int .i64 (.ofNat (min 200 (n-200*j)))):=fun _=>rw'.len
    have sw:=And.intro rw'.scal rw'.same
    have bv:∀ p,blk wv p->p.toNat<H.nx.toNat:=fun p hp=>M.d.blk_lt p (bw p hp)
    have kHH:=kk3.nx
    simp(maxDischargeDepth:=9)only[auX,t6,st0,lw]
    rw[<-hHc]
    refine W.loopI (fun k t G=>∃ i wi,i+k=min 200 (n-200*j)/\PT.get H1.nx.succ G.t=some (.cells [wi] false false)/\By G wi (List.replicate i 0)/\(∀ p,blk wi p->Hc.nx.toNat<=p.toNat)/\Hc.nx.toNat<=G.nx.toNat/\(∀ p:Pos,p.toNat<Hc.nx.toNat->p≠H1.nx.succ->PT.get p G.t=PT.get p Hc.t)/\PT.get (.o (.i .h)) t=some (.ptr H1.nx 0)/\PT.get (.i (.i .h)) t=some (.ptr H1.nx.succ 0)/\PT.get (.i (.i (.i (.i (.i .h))))) t=some (wv)/\PT.get (.o (.o (.o (.o (.o (.o .h)))))) t=some (.int .i64 (.ofNat (min 200 (n-200*j))))/\PT.get (.i (.o (.o (.o (.o (.o .h)))))) t=some (.int .i64 (.ofNat i))) ?_ (min 200 (n-200*j)) _ _ ?_
    rotate_left
    .exact⟨0,.snil,by omega,gc,⟨⟨rfl,.inl ⟨rfl,rfl⟩⟩,fun u hu=>by cases hu⟩,(fun p hp=>by cases hp),lr,(fun _ _ _=>rfl),by simp(maxDischargeDepth:=9)only[auX,t5],by simp(maxDischargeDepth:=9)only[auX,t6],by simp(maxDischargeDepth:=9)only[auX],by simp(maxDischargeDepth:=9)only[auX],by simp(maxDischargeDepth:=9)only[auX]⟩
    rintro k t G ⟨i,wi,hi,gi,Bi,bi,nG,fG,t5,t6,t62,t63,t64⟩
    by_cases hk:k=0
    .obtain rfl:i=min 200 (n-200*j):=by omega
     have gdG:PT.get H1.nx G.t=some (.cells [l] false false):=(fG _ (by omega) (ne _ _ (by omega))).trans ((cg _ (ne _ _ (by omega))).trans ((bg _ (ne _ _ (by omega))).trans e6))
     have LG:LN (fun p=>H3.nx.toNat<=p.toNat/\(p.toNat<H9.nx.toNat\/Y.nx.toNat<=p.toNat)) G l (mrow n crc++z1r n j):=eL.frame (fun p hp hlt=>⟨hp,by
      have h1:=hp.1
      have h2:=hp.2
      rw[fG _ (by omega) (ne _ _ (by omega)),cg _ (ne _ _ (by omega)),bg _ (ne _ _ (by omega))]⟩) (by omega)
     obtain⟨l2,G2,a2,L2,n2,f2⟩:=LG.more (fun p hp=>hA p (by omega)) Bi (fun p hp=>⟨hA p (by have:=bi p hp;omega),fun e=>by
      have:=bi p hp
      have:=eL.lt p e
      omega⟩) (by simp[mrow,z1r];split<;>simp<;>omega)
     have sl2:=L2.sc
     have gd2:PT.get H1.nx G2.t=some (.cells [l] false false):=(f2 _ (by omega) (by omega)).trans gdG
     have st2:=z0z gd2 (o:=0) (vs:=[l2]) (by rw[z0p sl2.1];rfl) rfl
     simp(maxDischargeDepth:=9)only[auX,↓reduceIte,t5,t6,t63,t64,eq_false (Nat.lt_irrefl (min 200 (n-200*j))),hl_g gdG,hl_g gi,Bi.sc,z0r a2,sl2,st2]
     have fin:∀ p:Pos,p.toNat<H'.nx.toNat->¬ (H3.nx.toNat<=p.toNat/\(p.toNat<H9.nx.toNat\/Y.nx.toNat<=p.toNat))->p≠H1.nx->p≠H1.nx.succ->p≠X.nx.succ->∀ o,PT.get p ((G2.upd H1.nx (.cells [l2] false false)).upd X.nx.succ o).t=PT.get p H'.t:=fun p h1 h2 h3 h4 h5 o=>by
      rw[z0a (Ne.symm h5),z0a (Ne.symm h3),f2 _ (by omega) h2,fG _ (by omega) h4,cg _ h4,bg _ h5]
     have lb2:PT.get X.nx.succ (G2.upd H1.nx (.cells [l2] false false)).t=some (.loop rb):=by rw[z0a (ne _ _ (by omega)),f2 _ (by omega) (by omega),fG _ (by omega) (ne _ _ (by omega)),cg _ (ne _ _ (by omega))];exact lb
     subst hrb
     refine j9d lb2 ⟨rfl,z0q,?_,?_,?_,?_,⟨l2,?_,?_⟩,⟨wi,?_⟩,?_,?_⟩
     .rw[fin _ (by omega) (by omega) (ne _ _ (by omega)) (ne _ _ (by omega)) (ne _ _ (by omega))];exact e2
     .rw[fin _ (by omega) (by omega) (ne _ _ (by omega)) (ne _ _ (by omega)) (ne _ _ (by omega))];exact e3
     .rw[fin _ (by omega) (by omega) (ne _ _ (by omega)) (ne _ _ (by omega)) (ne _ _ (by omega))];exact e4
     .rw[fin _ (by omega) (by omega) (ne _ _ (by omega)) (ne _ _ (by omega)) (ne _ _ (by omega))];exact e5
     .rw[z0a (ne _ _ (by omega))];exact z0q
     .rw[<-j6e,<-List.append_assoc]
      exact L2.frame (fun p hp hlt=>⟨hp,by
       have h1:=hp.1
       have h2:=hp.2
       rw[z0a (ne _ _ (by omega)),z0a (ne _ _ (by omega))]⟩) lr
     .rw[z0a (ne _ _ (by omega)),z0a (ne _ _ (by omega)),f2 _ (by omega) (by omega)];exact gi
     .show Y.nx.toNat<=G2.nx.toNat;omega
     .exact⟨by show _<=G2.nx.toNat;omega,fun p hp=>by rw[fin _ (by omega) (by omega) (ne _ _ (by omega)) (ne _ _ (by omega)) (ne _ _ (by omega)),e9.get p hp]⟩
    .have hi2:i<min 200 (n-200*j):=by omega
     have rG:Rd 1 G wv (min 200 (n-200*j)) (((zs n).drop (200*j)).take (min 200 (n-200*j))):=rw'.other (fun p hp=>by
      have:=bv p hp
      rw[fG _ (by omega) (ne _ _ (by omega)),cg _ (ne _ _ (by omega)),bg _ (ne _ _ (by omega))]) (by omega)
     obtain⟨q,u,j1,j2⟩:=Rd.at1 rG (k2d hi2)
     obtain⟨w2,G2,c2,B2,K2⟩:=q9p C Bi (by rw[List.length_replicate];omega)
     rw[zrep]at B2
     have nG2:=K2.nx
     have g2:=(K2.get _ (by omega)).trans gi
     have sw2:=B2.1.sc
     have st2:=z0z g2 (o:=0) (vs:=[w2]) (by rw[z0p sw2.2.1];rfl) rfl
     simp(maxDischargeDepth:=9)only[auX,t5,t6,t62,t63,t64,eq_true hi2,j1,j2,hl_g gi,z0c c2,sw2,st2,z0o (i:=i) (k:=1) (by omega)]
     refine⟨k-1,by omega,i+1,w2,by omega,rfl,B2.1.other (fun p hp=>z0a (ne _ _ (by have:=B2.2 p hp;omega))) lr,fun p hp=>by have:=B2.2 p hp;omega,by show _<=G2.nx.toNat;omega,fun p hp hq=>?_,rfl⟩
     rw[z0a (Ne.symm hq),K2.get _ (by omega),fG p hp hq]
   obtain⟨bb,H5,c5,rfl,h5⟩:=key
   exact⟨H5,c5,h5⟩
  .rintro H' ⟨e1,e2,e3,e4,e5,⟨l,e6,eL⟩,⟨we,e7⟩,e8,e9⟩
   have kHH:=kk3.nx
   have gd:PT.get H1.nx (H'.kill X.nx.succ).t=some (.cells [l] false false):=(z1a (ne _ _ (by omega))).trans e6
   have hl:LN (fun p=>H.nx.toNat<=p.toNat/\p≠X.nx) (H'.kill X.nx.succ) l (z15 n crc):=eL.frame (fun p hp hlt=>by
    have h1:=hp.1
    have h2:=hp.2
    exact⟨⟨by omega,ne _ _ (by omega)⟩,z1a (ne _ _ (by omega))⟩) lr
   have kZ:Keep H.nx.toNat H (H'.kill X.nx.succ):=⟨e9.nx,fun p hp=>(z1a (ne _ _ (by omega))).trans (e9.get p hp)⟩
   have hm:PT.get X.nx (H'.kill X.nx.succ).t=some (.dfr true):=(z1a (ne _ _ (by omega))).trans e2
   have hm':PT.get H.nx (H'.kill X.nx.succ).t=some (.cells (mfc n vc vs vd) false false):=(z1a (ne _ _ (by omega))).trans e5
   have nZ:(H'.kill X.nx.succ).nx=H'.nx:=rfl
   obtain⟨Z,hZ⟩ :∃ Z,Z=H'.kill X.nx.succ:=⟨_,rfl⟩
   rw[<-hZ]at gd hl kZ nZ hm hm' ⊢
   obtain⟨Z1,hZ1⟩ :∃ A,A=(Z.new (.cells [.int .i64 (.ofNat 1),.int .i64 (.ofNat n),.int .i64 (.ofNat (cutL n).length)] false false)).2:=⟨_,rfl⟩
   have kZ1:Keep Z.nx.toNat Z Z1:=by rw[hZ1];exact z0d
   have nZ1:=kZ1.nx
   have zlt:Z.nx.toNat=H'.nx.toNat:=by rw[nZ]
   have hcl:(cutL n).length<=1:=by unfold cutL;split<;>simp
   have rz:Rd 1 Z1 (.sl Z.nx 0 3 3 0) 3 (ics [1,n,(cutL n).length]):=by rw[hZ1];exact j64 rfl
   obtain⟨w,Z2,cw,Bw,kZ2⟩:=j9v C rz (by intro x hx;simp at hx;omega) (by simp)
   rw[q7s]at Bw
   have nZ2:=kZ2.nx
   have gd1:=(kZ1.get _ (by omega)).trans gd
   have gd2:=(kZ2.get _ (by omega)).trans gd1
   have hm2:=(kZ2.get _ (by omega)).trans ((kZ1.get _ (by omega)).trans hm)
   have sl:=hl.sc
   subst hZ1
   simp(maxDischargeDepth:=9)only[auX,reduceCtorEq,zA,aZ,Nat.reduceAnd,t1,t5,hl_g hm',ln,hl_g gd1,hl_g gd2,sl,z0j cw,j1s hm2]
   refine⟨_,_,rfl,?_,?_,?_⟩
   .exact⟨⟨(Bw.1.1.other (fun p hp=>z1a (ne _ _ (by have:=Bw.1.2 p hp;omega))) lr),fun p hp=>by have:=Bw.1.2 p hp;omega⟩,Bw.2⟩
   .exact hl.frame (fun p hp hlt=>⟨hp.1,by rw[z1a (Ne.symm hp.2),kZ2.get _ (by omega),kZ1.get _ hlt]⟩) (by show _<=Z2.nx.toNat;omega)
   .exact⟨by have:=kZ.nx;show _<=Z2.nx.toNat;omega,fun p hp=>by rw[z1a (ne _ _ (by omega)),kZ2.get _ (by have:=kZ.nx;omega),kZ1.get _ (by have:=kZ.nx;omega),kZ.get p hp]⟩
theorem q7z{H:AHeap}{vc vs vd:AVal}{n crc:Nat}(M:Mf H vc vs vd n crc)(hn:n<=2000)(hcr:crc<4294967296) :∃ w l H',z0f E 304 [.agg (mfc n vc vs vd)] H (.tup [w,l,.int .i64 (.ofNat 0)]) H'/\Bo H.nx.toNat H' w (z6b n)/\LN (fun p=>H.nx.toNat<=p.toNat) H' l (z15 n crc)/\Keep H.nx.toNat H H':=by
 by_cases h0:n=0
 .exact q2p C M h0
 .exact q2o C M h0 hn hcr
end
theorem j2o{m:Nat}(h:m<4294967296)(r:List Nat) :be4 (b4 m++r) 0=m:=by
 show m/16777216%256*16777216+m/65536%256*65536+m/256%256*256+m%256=m
 omega
theorem z4e(a:List Nat)(r:List Nat)(h:a.length=4)(k:Nat) :be4 (a++r) (4+k)=be4 r k:=by
 rw[<-j55,<-h,List.drop_left]
theorem q0a{a b c d:Nat}(ha:a<4294967296)(hb:b<4294967296)(hc:c<4294967296)(hd:d<4294967296) :be4 (b4 a++b4 b++b4 c++b4 d) (4*0)=a/\be4 (b4 a++b4 b++b4 c++b4 d) (4*1)=b/\be4 (b4 a++b4 b++b4 c++b4 d) (4*2)=c/\be4 (b4 a++b4 b++b4 c++b4 d) (4*3)=d:=by
 simp only[List.append_assoc]
 refine⟨j2o ha _,?_,?_,?_⟩
 .rw[show 4*1=4+0 from rfl,z4e _ _ rfl];exact j2o hb _
 .rw[show 4*2=4+(4+0)from rfl,z4e _ _ rfl,z4e _ _ rfl];exact j2o hc _
 .rw[show 4*3=4+(4+(4+0))from rfl,z4e _ _ rfl,z4e _ _ rfl,z4e _ _ rfl]
  have:=j2o hd []
  rw[List.append_nil]at this
  exact this
theorem y3f{a b c:Nat}(ha:a<4294967296)(hb:b<4294967296)(hc:c<4294967296) :be4 (b4 a++b4 b++b4 c) (4*0)=a/\be4 (b4 a++b4 b++b4 c) (4*1)=b/\be4 (b4 a++b4 b++b4 c) (4*2)=c:=by
 simp only[List.append_assoc]
 refine⟨j2o ha _,?_,?_⟩
 .rw[show 4*1=4+0 from rfl,z4e _ _ rfl];exact j2o hb _
 .rw[show 4*2=4+(4+0)from rfl,z4e _ _ rfl,z4e _ _ rfl]
  have:=j2o hc []
  rw[List.append_nil]at this
  exact this
theorem LR.at{H:AHeap}{v:AVal}{uss:List (List Nat)}(h:LR H v uss){i:Nat}(hi:i<uss.length) :∃ b o w,z2t 1 v (.int .i64 (.ofNat i))=some (.ptr b o)/\By H w uss[i]/\∀ H2,Keep H.nx.toNat H H2->z04 H2 b o=some w:=by
 obtain⟨zs,rfl,r,bz⟩:=h
 have hz:i<zs.length:=by simpa using hi
 obtain⟨b,o,h1,h2⟩:=Rd.atK r (i:=i) (x:=zs[i].1) (by simp[hz])
 exact⟨b,o,zs[i].1,h1,by rw[List.getElem_map];exact bz _ (List.getElem_mem hz),h2⟩
theorem LR.len{H:AHeap}{v:AVal}{uss:List (List Nat)}(h:LR H v uss) :(∀ H2,fLen H2 1 v=some (.int .i64 (.ofNat uss.length)))/\z1g v=true/\same v v=true:=by
 obtain⟨zs,rfl,r,bz⟩:=h
 exact⟨fun _=>by rw[List.length_map];exact r.len,r.scal,r.same⟩
theorem LR.tail{H:AHeap}{v:AVal}{us:List Nat}{uss:List (List Nat)}(h:LR H v (us::uss)) :∃ w,LR H w uss/\∀ {t:PT AVal} {x:AOpnd},x.ev t=.int .i64 (.ofNat 1)->z0w t (.sl 1) v (some x) none none=some w:=by
 obtain⟨zs,e,r,bz⟩:=h
 cases zs with
 | nil=>cases e
 | cons z zs =>
  cases e
  obtain⟨w,rw',_,_,_,s⟩:=j6y r (a:=1) (b:=(z::zs).length) (by simp) lr (by simp)
  refine⟨w,⟨zs,rfl,?_,fun y hy=>bz y (List.mem_cons_of_mem _ hy)⟩,s rfl⟩
  have e2:(List.map (·.1) (z::zs)).drop 1=zs.map (·.1):=rfl
  rw[e2,List.length_cons,Nat.add_sub_cancel,List.take_of_length_le (by simp)]at rw'
  exact rw'
theorem ButN.keep{N M:Nat}{q:Pos}{A H H':AHeap}(h:ButN N q H H')(k:Keep M A H)(hM:M<=N)(hq:M<=q.toNat) :Keep M A H':=⟨Nat.le_trans k.nx h.nx,fun p hp=>by rw[h.get p (by omega) (fun e=>by rw[e]at hp;omega),k.get p hp]⟩
section
variable{E:Env}(C:Ck E)
include C
theorem q0t{B H:AHeap}{q:Pos}{v:AVal}{n crc:Nat}{dr:List (List Nat)}(hL:LR B v ((b4 n++b4 41++b4 crc++b4 0)::dr))(kb:Keep B.nx.toNat B H)(hq:B.nx.toNat<=q.toNat)(hq2:q.toNat<H.nx.toNat)(g:PT.get q H.t=some (.cells [.int .i64 (.ofNat 1),.int .i64 (.ofNat n),.snil,.snil,.snil] false false))(h0:n≠0)(hn:n<=2000)(hcr:crc<4294967296) :
  ∃ w vc vs H',z0f E 302 [.ptr q 0,.int .i64 (.ofNat 1),v] H (.tup [w,.bool true]) H'/\PT.get q H'.t=some (.cells [.int .i64 (.ofNat 1),.int .i64 (.ofNat n),vc,vs,.snil] false false)/\GO 1 H.nx.toNat H' vc 1 [.int .i64 (.ofNat n)]/\GO 3 H.nx.toNat H' vs 1 [.int .i64 (.ofNat 41),.int .u32 (.ofNat crc),.int .i64 (.ofNat 0)]/\LR B w dr/\ButN H.nx.toNat q H H':=by
 have ne (a b:Pos) (h:a.toNat≠b.toNat) :a≠b:=fun e=>h (congrArg _ e)
 obtain⟨lv,sv⟩:=hL.len
 obtain⟨p0,o0,w0,i1,b0,iK⟩:=hL.at (i:=0) (by simp)
 have b0:By B w0 (b4 n++b4 41++b4 crc++b4 0):=b0
 obtain⟨wt,rt,st'⟩:=hL.tail
 have st2:=rt.len.2
 have s0:=b0.sc
 obtain⟨w1,b1,_,_,_,s1⟩:=b0.sub (a:=0) (b:=(b4 n++b4 41++b4 crc++b4 0).length) (by omega) lr (by simp[z0k])
 rw[List.drop_zero,Nat.sub_zero,List.take_length]at b1
 have c1:=b1.sc
 have hlen:(b4 n++b4 41++b4 crc++b4 0).length=16:=by simp[z0k]
 rw[hlen]at s0
 obtain⟨e0,e1,e2,e3⟩:=q0a (a:=n) (b:=41) (c:=crc) (d:=0) (by omega) (by omega) hcr (by omega)
 have num:∀ (G:AHeap),Keep B.nx.toNat B G->∀ k,k<4->z0f E 301 [w1,.int .i64 (.ofNat k)] G (.int .i64 (.ofNat (be4 (b4 n++b4 41++b4 crc++b4 0) (4*k)))) G:=fun G kG k hk=>y10 C (b1.keep kG lr) (by rw[hlen];omega) (by rw[hlen];omega)
 obtain⟨vc,H1,a1,G1,K1⟩:=z4q (H:=H) (k:=1) (by':=8) (N:=H.nx.toNat) (v:=.snil) (n:=0) (cs:=[]) (by omega) GO.nil lr (row:=[.int .i64 (.ofNat n)]) rfl rfl (by omega)
 have n1:=K1.nx
 have gx:PT.get q (H.new (.cells [.int .i64 (.ofNat n)] false false)).2.t=some (.cells [.int .i64 (.ofNat 1),.int .i64 (.ofNat n),.snil,.snil,.snil] false false):=(z0d.get q hq2).trans g
 have g1:=(K1.get q hq2).trans g
 have sc1:=And.intro G1.1.rd.scal G1.1.rd.same
 have t1':=z0z g1 (o:=2) (vs:=[vc]) (by rw[z0p sc1.1];rfl) rfl
 obtain⟨H2,hH2⟩ :∃ A,A=H1.upd q (.cells [.int .i64 (.ofNat 1),.int .i64 (.ofNat n),vc,.snil,.snil] false false):=⟨_,rfl⟩
 have n2:H2.nx=H1.nx:=by rw[hH2];rfl
 have z2:H2.nx.toNat=H1.nx.toNat:=by rw[n2]
 have g2:PT.get q H2.t=some (.cells [.int .i64 (.ofNat 1),.int .i64 (.ofNat n),vc,.snil,.snil] false false):=by rw[hH2];exact z0q
 have f2:∀ p:Pos,p≠q->PT.get p H2.t=PT.get p H1.t:=fun p hp=>by rw[hH2];exact z0a (Ne.symm hp)
 have kB2:Keep B.nx.toNat B H2:=⟨by have:=kb.nx;omega,fun p hp=>by rw[f2 p (ne _ _ (by omega)),K1.get _ (by omega),kb.get p hp]⟩
 obtain⟨vs,H3,a3,G3,K3⟩:=z4q (H:=H2) (k:=3) (by':=24) (N:=H2.nx.toNat) (v:=.snil) (n:=0) (cs:=[]) (by omega) GO.nil lr (row:=[.int .i64 (.ofNat 41),.int .u32 (.ofNat crc),.int .i64 (.ofNat 0)]) rfl rfl (by omega)
 have n3:=K3.nx
 have gy:PT.get q (H2.new (.cells [.int .i64 (.ofNat 41),.int .u32 (.ofNat crc),.int .i64 (.ofNat 0)] false false)).2.t=some (.cells [.int .i64 (.ofNat 1),.int .i64 (.ofNat n),vc,.snil,.snil] false false):=(z0d.get q (by omega)).trans g2
 have g3:=(K3.get q (by omega)).trans g2
 have sc3:=And.intro G3.1.rd.scal G3.1.rd.same
 have t3':=z0z g3 (o:=3) (vs:=[vs]) (by rw[z0p sc3.1];rfl) rfl
 have Gc:GO 1 H.nx.toNat (H3.upd q (.cells [.int .i64 (.ofNat 1),.int .i64 (.ofNat n),vc,vs,.snil] false false)) vc 1 [.int .i64 (.ofNat n)]:=⟨G1.1.other (fun p hp=>by
  have h1:=G1.2 p hp
  have h2:=G1.1.rd.blk_lt p hp
  rw[z0a (ne _ _ (by omega)),K3.get _ (by omega),f2 _ (ne _ _ (by omega))]) (by show _<=H3.nx.toNat;omega),G1.2⟩
 have Gs:GO 3 H.nx.toNat (H3.upd q (.cells [.int .i64 (.ofNat 1),.int .i64 (.ofNat n),vc,vs,.snil] false false)) vs 1 [.int .i64 (.ofNat 41),.int .u32 (.ofNat crc),.int .i64 (.ofNat 0)]:=⟨G3.1.other (fun p hp=>by
  have h1:=G3.2 p hp
  rw[z0a (ne _ _ (by omega))]) lr,fun p hp=>by have:=G3.2 p hp;omega⟩
 suffices hh:∃ r H',z0f E 302 [.ptr q 0,.int .i64 (.ofNat 1),v] H r H'/\(r=.tup [wt,.bool true]/\H'=H3.upd q (.cells [.int .i64 (.ofNat 1),.int .i64 (.ofNat n),vc,vs,.snil] false false))from by
  obtain⟨_,_,hc,rfl,rfl⟩:=hh
  exact⟨wt,vc,vs,_,hc,z0q,Gc,Gs,rt,by show _<=H3.nx.toNat;omega,fun p hp hpq=>by rw[z0a (Ne.symm hpq),K3.get _ (by omega),f2 _ hpq,K1.get _ hp]⟩
 have m0:z0l .mul (.int .i64 (.ofNat 16)) (.int .i64 (.ofNat 1))=some (.int .i64 (.ofNat 16)):=rfl
 have m1:z0l .mul (.int .i64 (.ofNat 16)) (.int .i64 (.ofNat 0))=some (.int .i64 (.ofNat 0)):=rfl
 have m2:mmA false (.int .i64 (.ofNat 1)) [.int .i64 (.ofNat 50)]=some (.int .i64 (.ofNat 1)):=rfl
 have N0:=num H kb 0 (by omega)
 have N1:=num H2 kB2 1 (by omega)
 have N2:=num H2 kB2 2 (by omega)
 have N3:=num H2 kB2 3 (by omega)
 rw[e0]at N0
 rw[e1]at N1
 rw[e2]at N2
 rw[e3]at N3
 have s1:∀ {t:PT AVal} {x:AOpnd},x.ev t=.int .i64 (.ofNat 0)->z0w t (.sl 1) w0 (some x) none none=some w1:=s1 rfl
 refine C.c302.rr (by conv=>lhs;reduce) ?_
 simp(maxDischargeDepth:=9)only[auX]
 refine W.loopI (fun k t G=>((k=1/\G=H/\PT.get (.o .h) t=some (.int .i64 (.ofNat 1))/\PT.get (.i .h) t=some (v))\/(k=0/\G=H3.upd q (.cells [.int .i64 (.ofNat 1),.int .i64 (.ofNat n),vc,vs,.snil] false false)/\PT.get (.o .h) t=some (.int .i64 (.ofNat 0))/\PT.get (.i .h) t=some (wt)))/\PT.get .h t=some (.ptr q 0)) ?_ 1 _ _ ⟨.inl ⟨rfl,rfl,rfl,rfl⟩,rfl⟩
 rintro k t G ⟨⟨rfl,rfl,t1,t2⟩ | ⟨rfl,rfl,t1,t2⟩,t0⟩
 .simp(maxDischargeDepth:=9)only[auX,bq,t1,t2,eq_true (show 0<1 by omega),m2,lv,List.length_cons,eq_false (show ¬ dr.length+1=0 by omega),i1,iK _ kb,s0,m0]
  refine W.loopI (fun k t A=>((k=1/\G=A/\PT.get (.i (.o (.i (.i .h)))) t=some (.int .i64 (.ofNat 0)))\/(k=0/\A=H3.upd q (.cells [.int .i64 (.ofNat 1),.int .i64 (.ofNat n),vc,vs,.snil] false false)/\PT.get (.i (.o (.i (.i .h)))) t=some (.int .i64 (.ofNat 1))))/\PT.get .h t=some (.ptr q 0)/\PT.get (.o .h) t=some (.int .i64 (.ofNat 1))/\PT.get (.i .h) t=some (v)/\PT.get (.i (.o (.o .h))) t=some (.int .i64 (.ofNat 1))/\PT.get (.o (.o (.i (.i .h)))) t=some (.int .i64 (.ofNat 1))) ?_ 1 _ _ ?_
  rotate_left
  .exact⟨.inl ⟨rfl,rfl,by simp(maxDischargeDepth:=9)only[auX]⟩,by simp(maxDischargeDepth:=9)only[auX,t0],by simp(maxDischargeDepth:=9)only[auX,t1],by simp(maxDischargeDepth:=9)only[auX,t2],by simp(maxDischargeDepth:=9)only[auX],by simp(maxDischargeDepth:=9)only[auX]⟩
  rintro k t A ⟨⟨rfl,rfl,t28⟩ | ⟨rfl,rfl,t28⟩,t0,t1,t2,t8,t27⟩
  .simp(maxDischargeDepth:=9)only[auX,reduceCtorEq,zA,aZ,Nat.reduceAnd,t0,t2,t27,t28,eq_true (show 0<1 by omega),i1,iK _ kb,m1,s1,hl_g g,z0j N0,z16 a1,sc1,t1']
   rw[<-hH2]
   simp(maxDischargeDepth:=9)only[auX,reduceCtorEq,Nat.reduceAdd,zA,aZ,Nat.reduceAnd,t0,t1,t2,t8,t27,t28,hl_g g2,c1,z0j N1,z0j N2,z0j N3,Nat.mod_eq_of_lt hcr,z16 a3,sc3,t3',z0o (i:=0) (k:=1) (by omega)]
   exact⟨0,by omega,.inr rfl⟩
  .simp(maxDischargeDepth:=9)only[auX,↓reduceIte,Nat.reduceSub,t0,t1,t2,t8,t27,t28,eq_false (Nat.lt_irrefl 1),z74 (i:=1) (k:=1) (by omega) (by omega),st']
   exact⟨0,by omega,.inr rfl⟩
 .simp(maxDischargeDepth:=9)only[auX,↓reduceIte,t1,t2,eq_false (Nat.lt_irrefl 0)]
theorem y9q{B H:AHeap}{q:Pos}{v vc vs:AVal}{n:Nat}(hL:LR B v (z1r n ((n+199)/200)))(kb:Keep B.nx.toNat B H)(hq:B.nx.toNat<=q.toNat)(hq2:q.toNat<H.nx.toNat)(g:PT.get q H.t=some (.cells [.int .i64 (.ofNat 1),.int .i64 (.ofNat n),vc,vs,.snil] false false))(sc:z1g vc=true/\z1g vs=true/\same vc vc=true/\same vs vs=true)(hn:n<=2000) :
  ∃ vd H',z0f E 303 [.ptr q 0,v] H (.bool true) H'/\PT.get q H'.t=some (.cells [.int .i64 (.ofNat 1),.int .i64 (.ofNat n),vc,vs,vd] false false)/\GO 1 H.nx.toNat H' vd n (zs n)/\ButN H.nx.toNat q H H':=by
 have ne (a b:Pos) (h:a.toNat≠b.toNat) :a≠b:=fun e=>h (congrArg _ e)
 obtain⟨lv,sv⟩:=hL.len
 have hzl:(z1r n ((n+199)/200)).length=(n+199)/200:=by simp[z1r]
 rw[hzl]at lv
 suffices hh:∃ r H',z0f E 303 [.ptr q 0,v] H r H'/\(∃ vd,r=.bool true/\PT.get q H'.t=some (.cells [.int .i64 (.ofNat 1),.int .i64 (.ofNat n),vc,vs,vd] false false)/\GO 1 H.nx.toNat H' vd n (zs n)/\ButN H.nx.toNat q H H')from by
  obtain⟨_,H',hc,vd,rfl,a⟩:=hh
  exact⟨vd,H',hc,a⟩
 refine C.c303.rr (by conv=>lhs;reduce) ?_
 simp(maxDischargeDepth:=9)only[auX,lv]
 refine W.loopI (fun k t G=>∃ j vd,j+k=(n+199)/200/\PT.get q G.t=some (.cells [.int .i64 (.ofNat 1),.int .i64 (.ofNat n),vc,vs,vd] false false)/\GO 1 H.nx.toNat G vd (min n (200*j)) (zs (min n (200*j)))/\ButN H.nx.toNat q H G/\PT.get .h t=some (.ptr q 0)/\PT.get (.i (.i (.o .h))) t=some (v)/\PT.get (.o (.o (.i .h))) t=some (.int .i64 (.ofNat ((n+199)/200)))/\PT.get (.i (.o (.i .h))) t=some (.int .i64 (.ofNat j))) ?_ ((n+199)/200) _ _ ?_
 rotate_left
 .exact⟨0,.snil,by omega,g,by rw[Nat.mul_zero,Nat.min_zero];exact GO.nil,⟨lr,fun _ _ _=>rfl⟩,rfl,rfl,rfl,rfl⟩
 rintro k t G ⟨j,vd,hj,gq,Gd,bG,t0,t10,t11,t12⟩
 have kG:=bG.keep kb (by have:=kb.nx;omega) hq
 have nG:=bG.nx
 by_cases hk:k=0
 .obtain rfl:j=(n+199)/200:=by omega
  rw[show min n (200*((n+199)/200))=n by omega]at Gd
  simp(maxDischargeDepth:=9)only[auX,↓reduceIte,t11,t12,eq_false (Nat.lt_irrefl ((n+199)/200))]
  exact⟨vd,gq,Gd,bG⟩
 .have hj2:j<(n+199)/200:=by omega
  obtain⟨p,o,w0,i1,b0,iK⟩:=hL.at (i:=j) (by rw[hzl];exact hj2)
  have ez:(z1r n ((n+199)/200))[j]'(by rw[hzl];exact hj2)=zrow n j:=by simp[z1r]
  rw[ez]at b0
  have hlz:(zrow n j).length=min 200 (n-200*j):=by simp[zrow]
  have b0':=b0.keep kG lr
  have s0:=b0.sc
  obtain⟨rq,w,A,c1,gr,Bw,h1,h2,h3,h4,kA⟩:=q66 C b0' (by rw[hlz];omega)
  have nA:=kA.nx
  have gqA:=(kA.get q (by omega)).trans gq
  have GdA:GO 1 H.nx.toNat A vd (min n (200*j)) (zs (min n (200*j))):=⟨Gd.1.keep kA lr,Gd.2⟩
  have ld:=fun p hp=>Gd.1.rd.blk_lt p hp
  simp(maxDischargeDepth:=9)only[auX,t10,t11,t12,hj2,i1,iK _ kG,z0c c1]
  refine W.loopI (fun k t D=>∃ i vd,i+k=min 200 (n-200*j)/\PT.get rq D.t=some (.cells [w,.int .i64 (.ofNat i),.int .i64 (.ofNat 0)] false false)/\By D w (zrow n j)/\(∀ p,blk w p->p.toNat<A.nx.toNat)/\PT.get q D.t=some (.cells [.int .i64 (.ofNat 1),.int .i64 (.ofNat n),vc,vs,vd] false false)/\GO 1 H.nx.toNat D vd (200*j+i) (zs (200*j+i))/\(∀ p,blk vd p->p.toNat<G.nx.toNat\/A.nx.toNat<=p.toNat)/\A.nx.toNat<=D.nx.toNat/\ButN H.nx.toNat q H D/\PT.get .h t=some (.ptr q 0)/\PT.get (.o (.o (.o .h))) t=some (.ptr rq 0)/\PT.get (.i (.i (.o .h))) t=some (v)/\PT.get (.o (.o (.i .h))) t=some (.int .i64 (.ofNat ((n+199)/200)))/\PT.get (.i (.o (.i .h))) t=some (.int .i64 (.ofNat j))) ?_ (min 200 (n-200*j)) _ _ ?_
  rotate_left
  .rw[show min n (200*j)=200*j by omega]at GdA
   exact⟨0,vd,by omega,gr,Bw,(fun p hp=>Bw.1.blk_lt p hp),gqA,GdA,fun p hp=>.inl (ld p hp),lr,⟨by omega,fun p hp hpq=>by rw[kA.get _ (by omega),bG.get p hp hpq]⟩,by simp(maxDischargeDepth:=9)only[auX,t0],by simp(maxDischargeDepth:=9)only[auX],by simp(maxDischargeDepth:=9)only[auX,t10],by simp(maxDischargeDepth:=9)only[auX,t11],by simp(maxDischargeDepth:=9)only[auX,t12]⟩
  rintro k2 t D ⟨i,vd,hi,gr,Bw,wA,gq,Gd,bd,nD,bD,t0,t7,t10,t11,t12⟩
  have cl:=q7a C gr Bw (by rw[hlz];omega) (by rw[hlz];omega)
  rw[hlz]at cl
  by_cases hk2:k2=0
  .obtain rfl:i=min 200 (n-200*j):=by omega
   rw[Nat.sub_self]at cl
   simp(maxDischargeDepth:=9)only[auX,↓reduceIte,t0,t7,t10,t11,t12,z0c cl,eq_false (Nat.lt_irrefl 0),z0c (k1f C gr),z0o (i:=j) (k:=1) (by omega)]
   exact⟨k-1,by omega,j+1,vd,by omega,gq,by rw[show min n (200*(j+1))=200*j+min 200 (n-200*j)by omega];exact Gd,bD,rfl⟩
  .have hi2:i<min 200 (n-200*j):=by omega
   have ci:=k04 C gr Bw (by rw[hlz];exact hi2) (by simp[zrow]) (by rw[hlz];omega)
   obtain⟨D1,hD1⟩ :∃ A,A=D.upd rq (.cells [w,.int .i64 (.ofNat (i+1)),.int .i64 (.ofNat 0)] false false):=⟨_,rfl⟩
   rw[<-hD1]at ci
   have m1:D1.nx=D.nx:=by rw[hD1];rfl
   have z1:D1.nx.toNat=D.nx.toNat:=by rw[m1]
   have f1:∀ p:Pos,p≠rq->PT.get p D1.t=PT.get p D.t:=fun p hp=>by rw[hD1];exact z0a (Ne.symm hp)
   have gr1:PT.get rq D1.t=some (.cells [w,.int .i64 (.ofNat (i+1)),.int .i64 (.ofNat 0)] false false):=by rw[hD1];exact z0q
   have gq1:=(f1 q (ne _ _ (by omega))).trans gq
   have Gd1:GO 1 H.nx.toNat D1 vd (200*j+i) (zs (200*j+i)):=⟨Gd.1.other (fun p hp=>f1 p (ne _ _ (by have:=bd p hp;omega))) (by omega),Gd.2⟩
   obtain⟨v2,D2,a2,G2,K2,fr,fb,nn⟩:=z2u (by':=8) (by omega) Gd1 (by omega) (row:=[.int .i64 (.ofNat 0)]) rfl rfl (by omega)
   have gqn:PT.get q (D1.new (.cells [.int .i64 (.ofNat 0)] false false)).2.t=some (.cells [.int .i64 (.ofNat 1),.int .i64 (.ofNat n),vc,vs,vd] false false):=(z0d.get q (by omega)).trans gq1
   have gq2:=(K2.get q hq2).trans gq1
   have sd:=And.intro Gd.1.rd.scal Gd.1.rd.same
   have s2:=And.intro G2.1.rd.scal G2.1.rd.same
   have st:=z0z gq2 (o:=4) (vs:=[v2]) (by rw[z0p s2.1];rfl) rfl
   have hlt:0<min 200 (n-200*j)-i:=by omega
   simp(maxDischargeDepth:=9)only[auX,reduceCtorEq,zA,aZ,Nat.reduceAnd,t0,t7,t10,t11,t12,z0c cl,eq_true hlt,hl_g gq,hl_g gq1,sd,z0j ci,z16 a2,s2,st]
   have e:zs (200*j+(i+1))=zs (200*j+i)++[.int .i64 (.ofNat 0)]:=by
    rw[<-Nat.add_assoc]
    simp only[zs,List.replicate_succ']
   have nvd:∀ p:Pos,G.nx.toNat<=p.toNat->p.toNat<A.nx.toNat->¬ blk vd p:=fun p h1 h2 e=>by have:=bd p e;omega
   have wlt:=fun p hp=>Bw.1.blk_lt p hp
   have hrq:rq.toNat<D1.nx.toNat:=by omega
   have w4:∀ p,blk w p->G.nx.toNat<=p.toNat:=h4
   refine⟨k2-1,by omega,i+1,v2,by omega,?_,?_,wA,rfl,?_,?_,?_,?_⟩
   .rw[z0a (ne _ _ (by omega)),fr _ hrq (nvd _ h1 h2)];exact gr1
   .exact Bw.other (fun p hp=>by
     rw[z0a (ne _ _ (by have:=w4 p hp;omega)),fr _ (by have:=wlt p hp;omega) (nvd _ (w4 p hp) (wA p hp)),f1 _ (fun e=>h3 (by rw[<-e];exact hp))]) (by show _<=D2.nx.toNat;omega)
   .rw[e]
    exact⟨G2.1.other (fun p hp=>z0a (ne _ _ (by have:=fb p hp;omega))) lr,G2.2⟩
   .exact fun p hp=>.inr (by have:=fb p hp;omega)
   .show _<=D2.nx.toNat;omega
   .exact⟨by show _<=D2.nx.toNat;have:=bD.nx;omega,fun p hp hpq=>by rw[z0a (Ne.symm hpq),K2.get _ hp,f1 _ (ne _ _ (by omega)),bD.get p hp hpq]⟩
end
end Go.Am
