import Derived.Test.YtepncpggenncoaaGreatDoorDc14
import Derived.Test.YtepncpggenncoaaGreatDoorDc8
import Derived.Test.YtepncpggenncoaaGreatDoorDc5
set_option linter.all false
set_option maxRecDepth 20000
set_option maxHeartbeats 8000000
namespace Go.Am
open Go Go.Proofs
theorem cl1(n:Nat) :(cutL n).length<=1:=by unfold cutL;split<;>simp
def MfO(N:Nat)(H:AHeap)(vc vs vd:AVal)(n crc:Nat) :Prop:=Mf H vc vs vd n crc/\∀ p,blk vc p\/blk vs p\/blk vd p->N<=p.toNat
theorem MfO.other{N:Nat}{H H':AHeap}{vc vs vd:AVal}{n crc:Nat}(h:MfO N H vc vs vd n crc)(hg:∀ p:Pos,N<=p.toNat->p.toNat<H.nx.toNat->PT.get p H'.t=PT.get p H.t)(hn:H.nx.toNat<=H'.nx.toNat) :MfO N H' vc vs vd n crc :=
 ⟨⟨h.1.c.other (fun p hp=>hg p (h.2 p (.inl hp)) (h.1.c.blk_lt p hp)) hn,h.1.s.other (fun p hp=>hg p (h.2 p (.inr (.inl hp))) (h.1.s.blk_lt p hp)) hn,h.1.d.other (fun p hp=>hg p (h.2 p (.inr (.inr hp))) (h.1.d.blk_lt p hp)) hn⟩,h.2⟩
theorem MfO.mono{N M:Nat}{H:AHeap}{vc vs vd:AVal}{n crc:Nat}(h:MfO N H vc vs vd n crc)(hm:M<=N) :MfO M H vc vs vd n crc:=⟨h.1,fun p hp=>Nat.le_trans hm (h.2 p hp)⟩
theorem j48(n crc:Nat)(hn:n<=2000) :rows (z1z n crc)=some (z6b n,z15 n crc):=y6k (by simp[z0k]) (fun p hp=>by have:=j49 n crc p hp;omega)
section
variable{E:Env}(C:Ck E)
include C
theorem y6f{H:AHeap}{q:Pos}{v:AVal}{uss:List (List Nat)}(hL:LR H v uss) :z0f E 302 [.ptr q 0,.int .i64 (.ofNat 0),v] H (.tup [v,.bool true]) H:=by
 obtain⟨lv,sv⟩:=hL.len
 suffices hh:∃ r H',z0f E 302 [.ptr q 0,.int .i64 (.ofNat 0),v] H r H'/\(r=.tup [v,.bool true]/\H'=H)from by
  obtain⟨_,_,hc,rfl,rfl⟩:=hh
  exact hc
 refine C.c302.rr (by conv=>lhs;reduce) ?_
 simp(maxDischargeDepth:=9)only[auX]
 refine W.loopI (fun k t G=>G=H/\PT.get (.o .h) t=some (.int .i64 (.ofNat 0))/\PT.get (.i .h) t=some (v)) ?_ 0 _ _ ⟨rfl,rfl,rfl⟩
 rintro k t G ⟨rfl,t1,t2⟩
 simp(maxDischargeDepth:=9)only[auX,↓reduceIte,t1,t2,eq_false (Nat.lt_irrefl 0)]
theorem y6e{B H:AHeap}{q:Pos}{v:AVal}{n crc:Nat}(hL:LR B v (z15 n crc))(kb:Keep B.nx.toNat B H)(hq:B.nx.toNat<=q.toNat)(hq2:q.toNat<H.nx.toNat)(g:PT.get q H.t=some (.cells [.int .i64 (.ofNat 1),.int .i64 (.ofNat n),.snil,.snil,.snil] false false))(hn:n<=2000)(hcr:crc<4294967296) :
  ∃ w vc vs H',z0f E 302 [.ptr q 0,.int .i64 (.ofNat (cutL n).length),v] H (.tup [w,.bool true]) H'/\PT.get q H'.t=some (.cells [.int .i64 (.ofNat 1),.int .i64 (.ofNat n),vc,vs,.snil] false false)/\GO 1 H.nx.toNat H' vc (cutL n).length (cutL n)/\GO 3 H.nx.toNat H' vs (cutL n).length (shL n crc)/\LR B w (z1r n ((n+199)/200))/\ButN H.nx.toNat q H H':=by
 by_cases h0:n=0
 .subst h0
  have h1:(LR H v (z15 0 crc)):=by
   obtain⟨zs,a,b,c⟩:=hL
   exact⟨zs,a,b.keep kb lr,fun z hz=>(c z hz).keep kb lr⟩
  exact⟨v,.snil,.snil,H,y6f C h1,g,GO.nil,GO.nil,hL,lr,fun _ _ _=>rfl⟩
 .have e:z15 n crc=(b4 n++b4 41++b4 crc++b4 0)::z1r n ((n+199)/200):=by unfold z15;rw[z8j h0];rfl
  rw[e]at hL
  obtain⟨w,vc,vs,H',c,g',G1,G2,L,b⟩:=q0t C hL kb hq hq2 g h0 hn hcr
  have e1:cutL n=[.int .i64 (.ofNat n)]:=by simp[cutL,h0]
  have e2:shL n crc=[.int .i64 (.ofNat 41),.int .u32 (.ofNat crc),.int .i64 (.ofNat 0)]:=by simp[shL,h0]
  rw[e1,e2]
  exact⟨w,vc,vs,H',c,g',G1,G2,L,b⟩
theorem k1n{H:AHeap}{w v:AVal}{n crc:Nat}(hw:By H w (z6b n))(hL:LR H v (z15 n crc))(hn:n<=2000)(hcr:crc<4294967296) :∃ vc vs vd H',z0f E 232 [w,v] H (.tup [.agg (mfc n vc vs vd),.int .i64 (.ofNat 0)]) H'/\MfO (H.nx.toNat+1) H' vc vs vd n crc/\Keep H.nx.toNat H H':=by
 have ne (a b:Pos) (h:a.toNat≠b.toNat) :a≠b:=fun e=>h (congrArg _ e)
 have c1:=cl1 n
 have hl:(z6b n).length=12:=by simp[z0k]
 obtain⟨e0,e1,e2⟩:=y3f (a:=1) (b:=n) (c:=(cutL n).length) (by omega) (by omega) (by omega)
 obtain⟨A1,hA1⟩ :∃ A,A=(H.new (.cells [.int .i64 (.ofNat 0),.int .i64 (.ofNat 0),.snil,.snil,.snil] false false)).2:=⟨_,rfl⟩
 have k1:Keep H.nx.toNat H A1:=by rw[hA1];exact z0d
 have n1:A1.nx.toNat=H.nx.toNat+1:=by rw[hA1];exact Pos.toNat_succ _
 have gp1:PT.get H.nx A1.t=some (.cells [.int .i64 (.ofNat 0),.int .i64 (.ofNat 0),.snil,.snil,.snil] false false):=by rw[hA1];exact z0i
 have num:∀ G,Keep H.nx.toNat H G->∀ k,k<3->z0f E 301 [w,.int .i64 (.ofNat k)] G (.int .i64 (.ofNat (be4 (z6b n) (4*k)))) G:=fun G kG k hk=>y10 C (hw.keep kG lr) (by rw[hl];omega) (by rw[hl];omega)
 obtain⟨A2,hA2⟩ :∃ A,A=(A1.new (.cells [.int .i64 (.ofNat 1),.int .i64 (.ofNat n),.snil,.snil,.snil] false false)).2:=⟨_,rfl⟩
 have k2:Keep A1.nx.toNat A1 A2:=by rw[hA2];exact z0d
 have n2:A2.nx.toNat=A1.nx.toNat+1:=by rw[hA2];exact Pos.toNat_succ _
 have gq2:PT.get A1.nx A2.t=some (.cells [.int .i64 (.ofNat 1),.int .i64 (.ofNat n),.snil,.snil,.snil] false false):=by rw[hA2];exact z0i
 have kk2:=k1.trans (k2.mono (by omega))
 obtain⟨wr,vc,vs,A3,c3,gq3,Gc,Gs,L3,b3⟩:=y6e C hL kk2 (by omega) (by omega) gq2 hn hcr
 have n3:=b3.nx
 have kk3:=b3.keep kk2 (by omega) (by omega)
 have sC:=And.intro Gc.1.rd.scal (And.intro Gs.1.rd.scal (And.intro Gc.1.rd.same Gs.1.rd.same))
 obtain⟨vd,A4,c4,gq4,Gd,b4'⟩:=y9q C L3 kk3 (by omega) (by omega) gq3 sC hn
 have n4:=b4'.nx
 have kk4:=b4'.keep kk3 (by omega) (by omega)
 have M4:Mf A4 vc vs vd n crc:=⟨Gc.1.rd.other (fun p hp=>b4'.get p (Gc.1.rd.blk_lt p hp) (ne _ _ (by have:=Gc.2 p hp;omega))) n4,Gs.1.rd.other (fun p hp=>b4'.get p (Gs.1.rd.blk_lt p hp) (ne _ _ (by have:=Gs.2 p hp;omega))) n4,Gd.1.rd⟩
 have gp4:PT.get H.nx A4.t=some (.cells [.int .i64 (.ofNat 0),.int .i64 (.ofNat 0),.snil,.snil,.snil] false false):=by rw[b4'.get _ (by omega) (ne _ _ (by omega)),b3.get _ (by omega) (ne _ _ (by omega)),k2.get _ (by omega)];exact gp1
 obtain⟨wh,l,A5,c5,Bh,Ll,k5⟩:=q7z C M4 hn hcr
 have n5:=k5.nx
 have kk5:=kk4.trans (k5.mono (by omega))
 have gq5:=(k5.get _ (by omega)).trans gq4
 have gp5:=(k5.get _ (by omega)).trans gp4
 have M5:=M4.keep k5 lr
 obtain⟨q1,z1,m1,ld1⟩:=Bh.by.arr hl (by omega)
 obtain⟨q2,z2,m2,ld2⟩:=(hw.keep kk5 lr).arr hl (by omega)
 have ld1:=ld1 A5 (Keep.refl _ _)
 have ld2:=ld2 A5 (Keep.refl _ _)
 have eq12:∀ H,eqV H (.cells [.int,.int,.int,.int,.int,.int,.int,.int,.int,.int,.int,.int]) (.agg (z0b (z6b n))) (.agg (z0b (z6b n)))=some (decide (z6b n=z6b n)):=fun H=>j2g (H:=H) hl hl
 rw[decide_eq_true rfl]at eq12
 have hL5:LR A5 v (z15 n crc):=by
  obtain⟨zs,a,b,c⟩:=hL
  exact⟨zs,a,b.keep kk5 lr,fun z hz=>(c z hz).keep kk5 lr⟩
 have ml:=z6m n crc hn
 have cE:=k1i C Ll.lr hL5 (by omega)
 rw[decide_eq_true rfl]at cE
 have sl:=Ll.sc
 have sv:=hL.len.2
 have sw:=hw.sc
 rw[hl]at sw
 have sh:=Bh.by.sc
 have sm:=M5.sc
 have slr:=L3.len.2
 have st:=z0z gp5 (o:=0) (vs:=mfc n vc vs vd) (by simp only[mfc,z0p z5y,z0p sm.1,z0p sm.2.1,z0p sm.2.2.1];rfl) rfl
 have N0:=num A1 k1 0 (by omega)
 have N1:=num A1 k1 1 (by omega)
 have N2:=num A1 k1 2 (by omega)
 have N2':=num A2 kk2 2 (by omega)
 rw[e0]at N0
 rw[e1]at N1
 rw[e2]at N2 N2'
 refine⟨vc,vs,vd,A5.upd H.nx (.cells (mfc n vc vs vd) false false),?_,?_,kk5.trans (z0s lr)⟩
 .refine C.c232.re (by conv=>lhs;reduce) ?_
  simp(maxDischargeDepth:=9)only[auX]
  rw[<-hA1]
  simp(maxDischargeDepth:=9)only[auX,bq,Nat.reduceAdd,zA,sw,z0c N2,eq_false (show ¬ 1000<(cutL n).length by omega),z0c N0,z0c N1]
  rw[<-hA2]
  simp(maxDischargeDepth:=9)only[auX,bq,reduceCtorEq,Nat.reduceAdd,zA,aZ,Nat.reduceAnd,z0c N2',z0c c3,z0c c4,hn_g gq4,z0c c5,m1,ld1,m2,ld2,eq12,z0j cE,hn_g gq5,mfc,st]
 .have own:MfO (H.nx.toNat+1) A5 vc vs vd n crc:=⟨M5,fun p hp=>by
   rcases hp with hp | hp | hp
   .have:=Gc.2 p hp;omega
   .have:=Gs.2 p hp;omega
   .have:=Gd.2 p hp;omega⟩
  exact own.other (fun p hp _=>z0a (ne _ _ (by omega))) lr
end
theorem z5w{H:AHeap}{vc vs vd:AVal}{n crc:Nat}(M:Mf H vc vs vd n crc) :z1l (mfc n vc vs vd)=true:=by
 have sm:=M.sc
 simp only[mfc,z0p z5y,z0p sm.1,z0p sm.2.1,z0p sm.2.2.1]
 rfl
section
variable{E:Env}(C:CkS E)
include C
theorem q0s{H:AHeap}{F:Pos}{nm us:List Nat}(h:PHas H F nm us) :∃ H',z0f E 113 [.ptr F 0,.str nm] H (.tup [.int .i64 (.ofNat us.length),.int .i64 (.ofNat 0)]) H'/\Keep H.nx.toNat H H':=by
 obtain⟨m,l,h',pv,fl,nl,np,ct,f,h,h1,rfl,rfl,h4,h5,_⟩:=h
 exact y6c C h h1 h4
theorem y79{H:AHeap}{F:Pos}{n crc:Nat}(h:PHas H F mnm (z1z n crc))(hn:n<=2000)(hcr:crc<4294967296) :∃ vc vs vd H',z0f E 173 [.ptr F 0,.str mnm] H (.tup [.agg (mfc n vc vs vd),.bool true,.int .i64 (.ofNat 0)]) H'/\MfO (H.nx.toNat+1) H' vc vs vd n crc/\Keep H.nx.toNat H H':=by
 have ne (a b:Pos) (h:a.toNat≠b.toNat) :a≠b:=fun e=>h (congrArg _ e)
 obtain⟨A1,hA1⟩ :∃ A,A=(H.new (.cells [.int .i64 (.ofNat 0),.int .i64 (.ofNat 0),.snil,.snil,.snil] false false)).2:=⟨_,rfl⟩
 have k1:Keep H.nx.toNat H A1:=by rw[hA1];exact z0d
 have n1:A1.nx.toNat=H.nx.toNat+1:=by rw[hA1];exact Pos.toNat_succ _
 have gp1:PT.get H.nx A1.t=some (.cells [.int .i64 (.ofNat 0),.int .i64 (.ofNat 0),.snil,.snil,.snil] false false):=by rw[hA1];exact z0i
 obtain⟨A2,c2,k2⟩:=q0s C (h.keep k1 lr)
 obtain⟨r,A3,c3,D,k3⟩:=y77 C (h.keep (k1.trans (k2.mono (by omega))) lr)
 have n2:=k2.nx
 have n3:=k3.nx
 rcases D with⟨hr,_⟩ | ⟨hd,ds,w,l,hr,rfl,B,L⟩
 .rw[j48 n crc hn]at hr
  cases hr
 rw[j48 n crc hn]at hr
 simp only[Option.some.injEq,Prod.mk.injEq]at hr
 obtain⟨rfl,rfl⟩:=hr
 obtain⟨vc,vs,vd,A4,c4,M,k4⟩:=k1n C.toCk B L hn hcr
 have n4:=k4.nx
 obtain⟨A5,hA5⟩ :∃ A,A=(A4.new (.cells (mfc n vc vs vd) false false)).2:=⟨_,rfl⟩
 have k5:Keep A4.nx.toNat A4 A5:=by rw[hA5];exact z0d
 have n5:=k5.nx
 have g5:PT.get A4.nx A5.t=some (.cells (mfc n vc vs vd) false false):=by rw[hA5];exact z0i
 have gp5:=(k5.get _ (by omega)).trans ((k4.get _ (by omega)).trans ((k3.get _ (by omega)).trans ((k2.get _ (by omega)).trans gp1)))
 have M5:=M.other (fun p _ hp=>k5.get p hp) n5
 have st:=z0z gp5 (o:=0) (vs:=mfc n vc vs vd) (z5w M5.1) rfl
 have sb:=B.sc
 have sl:=L.len.2
 have sm:=M5.1.sc
 refine⟨vc,vs,vd,A5.upd H.nx (.cells (mfc n vc vs vd) false false),?_,(M5.other (fun p hp _=>z0a (ne _ _ (by omega))) lr).mono (by omega),((((k1.trans (k2.mono (by omega))).trans (k3.mono (by omega))).trans (k4.mono (by omega))).trans (k5.mono (by omega))).trans (z0s lr)⟩
 refine C.c173.re (by conv=>lhs;reduce) ?_
 simp(maxDischargeDepth:=9)only[auX]
 rw[<-hA1]
 simp(maxDischargeDepth:=9)only[auX,Nat.reduceAdd,zA,z0c c2,z0c c3,z0c c4,sm]
 rw[<-hA5]
 simp(maxDischargeDepth:=9)only[auX,Nat.reduceAdd,zA,st]
theorem q1r{H:AHeap}{F:Pos}{n crc:Nat}(h:PHas H F mnm (z1z n crc))(hn:n<=2000)(hcr:crc<4294967296) :∃ vc vs vd H',z0f E 120 [.ptr F 0] H (.tup [.agg (mfc n vc vs vd),.bool true,.int .i64 (.ofNat 0)]) H'/\MfO (H.nx.toNat+1) H' vc vs vd n crc/\Keep H.nx.toNat H H':=by
 have ne (a b:Pos) (h:a.toNat≠b.toNat) :a≠b:=fun e=>h (congrArg _ e)
 obtain⟨A1,hA1⟩ :∃ A,A=(H.new (.cells [.int .i64 (.ofNat 0),.int .i64 (.ofNat 0),.snil,.snil,.snil] false false)).2:=⟨_,rfl⟩
 have k1:Keep H.nx.toNat H A1:=by rw[hA1];exact z0d
 have n1:A1.nx.toNat=H.nx.toNat+1:=by rw[hA1];exact Pos.toNat_succ _
 have gp1:PT.get H.nx A1.t=some (.cells [.int .i64 (.ofNat 0),.int .i64 (.ofNat 0),.snil,.snil,.snil] false false):=by rw[hA1];exact z0i
 obtain⟨vc,vs,vd,A2,c2,M,k2⟩:=y79 C (h.keep k1 lr) hn hcr
 have gp2:=(k2.get _ (by omega)).trans gp1
 have st:=z0z gp2 (o:=0) (vs:=mfc n vc vs vd) (z5w M.1) rfl
 have sm:=M.1.sc
 refine⟨vc,vs,vd,A2.upd H.nx (.cells (mfc n vc vs vd) false false),?_,(M.other (fun p hp _=>z0a (ne _ _ (by omega))) lr).mono (by omega),(k1.trans (k2.mono (by omega))).trans (z0s lr)⟩
 refine C.c120.re (by conv=>lhs;reduce) ?_
 simp(maxDischargeDepth:=9)only[auX]
 rw[<-hA1]
 simp(maxDischargeDepth:=9)only[auX,Nat.reduceAdd,zA,z0c c2,st]
theorem j5l{H:AHeap}{F:Pos}{n crc:Nat}(h:PHas H F mnm (z1z n crc))(hn:n<=2000)(hcr:crc<4294967296) :∃ vc vs vd H',z0f E 59 [.ptr F 0] H (.tup [.agg (mfc n vc vs vd),.int .i64 (.ofNat 0)]) H'/\MfO (H.nx.toNat+1) H' vc vs vd n crc/\Keep H.nx.toNat H H':=by
 have ne (a b:Pos) (h:a.toNat≠b.toNat) :a≠b:=fun e=>h (congrArg _ e)
 obtain⟨A1,hA1⟩ :∃ A,A=(H.new (.cells [.int .i64 (.ofNat 0),.int .i64 (.ofNat 0),.snil,.snil,.snil] false false)).2:=⟨_,rfl⟩
 have k1:Keep H.nx.toNat H A1:=by rw[hA1];exact z0d
 have n1:A1.nx.toNat=H.nx.toNat+1:=by rw[hA1];exact Pos.toNat_succ _
 have gp1:PT.get H.nx A1.t=some (.cells [.int .i64 (.ofNat 0),.int .i64 (.ofNat 0),.snil,.snil,.snil] false false):=by rw[hA1];exact z0i
 obtain⟨vc,vs,vd,A2,c2,M,k2⟩:=q1r C (h.keep k1 lr) hn hcr
 obtain⟨A3,hA3⟩ :∃ A,A=(A2.new (.cells (mfc n vc vs vd) false false)).2:=⟨_,rfl⟩
 have n2:=k2.nx
 have k3:Keep A2.nx.toNat A2 A3:=by rw[hA3];exact z0d
 have g3:PT.get A2.nx A3.t=some (.cells (mfc n vc vs vd) false false):=by rw[hA3];exact z0i
 have gp3:=(k3.get _ (by omega)).trans ((k2.get _ (by omega)).trans gp1)
 have M3:=M.other (fun p _ hp=>k3.get p hp) k3.nx
 have st:=z0z gp3 (o:=0) (vs:=mfc n vc vs vd) (z5w M.1) rfl
 have sm:=M.1.sc
 refine⟨vc,vs,vd,A3.upd H.nx (.cells (mfc n vc vs vd) false false),?_,(M3.other (fun p hp _=>z0a (ne _ _ (by omega))) lr).mono (by omega),((k1.trans (k2.mono (by omega))).trans (k3.mono (by omega))).trans (z0s lr)⟩
 refine C.c59.re (by conv=>lhs;reduce) ?_
 simp(maxDischargeDepth:=9)only[auX]
 rw[<-hA1]
 simp(maxDischargeDepth:=9)only[auX,bq,Nat.reduceAdd,zA,z0c c2,sm]
 rw[<-hA3]
 simp(maxDischargeDepth:=9)only[auX,Nat.reduceAdd,zA,st]
end
section
variable{E:Env}(C:Ck E)
include C
theorem q67{H:AHeap}{v:AVal}{us:List Nat}(h:By H v us)(hl:us.length<=1000000) :∃ q w H',z0f E 360 [v] H (.ptr q 0) H'/\PT.get q H'.t=some (.cells [w,.int .i64 (.ofNat 0),.int .i64 (.ofNat 0)] false false)/\By H' w us/\H.nx.toNat<=q.toNat/\q.toNat<H'.nx.toNat/\¬ blk w q/\(∀ p,blk w p->H.nx.toNat<=p.toNat)/\Keep H.nx.toNat H H':=by
 obtain⟨w,H1,c1,G1,K1⟩:=z62 C h.1 (by omega)
 have b1:By H1 w us:=⟨G1.1.rd,h.2⟩
 have s1:=b1.sc
 have n1:=K1.nx
 refine⟨H1.nx,w,(H1.new (.cells [w,.int .i64 (.ofNat 0),.int .i64 (.ofNat 0)] false false)).2,?_,z0i,b1.keep z0d lr,n1,z0h,fun e=>by have:=G1.1.rd.blk_lt _ e;omega,G1.2,K1.trans (z0d.mono n1)⟩
 refine C.c360.re (by conv=>lhs;reduce) ?_
 simp(maxDischargeDepth:=9)only[auX,s1,z0c c1]
theorem q1v{H:AHeap}{q:Pos}{w:AVal}{us:List Nat}{at':Nat}(g:PT.get q H.t=some (.cells [w,.int .i64 (.ofNat at'),.int .i64 (.ofNat 0)] false false))(h:By H w us)(ha:at'<=us.length)(hl:us.length<=1000000) :z0f E 365 [.ptr q 0] H (.int .i64 (.ofNat (us.length-at'))) H:=by
 refine C.c365.re (by conv=>lhs;reduce) ?_
 simp(maxDischargeDepth:=9)only[auX,zA,aZ,hl_g g,h.sc,z74 (i:=us.length) (k:=at') ha (by omega)]
theorem q63{H:AHeap}{q:Pos}{w:AVal}{us:List Nat}{at':Nat}(g:PT.get q H.t=some (.cells [w,.int .i64 (.ofNat at'),.int .i64 (.ofNat 0)] false false))(h:By H w us)(ha:at'<us.length)(hz:us[at']=0)(hl:us.length<=1000000) :z0f E 361 [.ptr q 0,.int .i64 (.ofNat at')] H (.tup [.int .i64 (.ofNat 0),.int .i64 (.ofNat (at'+1)),.int .i64 (.ofNat 0)]) H:=by
 obtain⟨b,o,i1,i2⟩:=h.at ha
 rw[hz]at i2
 have s:=h.sc
 have a0:z0l .add (.int .i64 (.ofNat at')) (.int .i64 (.ofNat 0))=some (.int .i64 (.ofNat at')):=z0o (by omega)
 have z1:z0l .mul (.int .i64 (.ofNat 0)) (.int .i64 (.ofNat 128))=some (.int .i64 (.ofNat 0)):=rfl
 have z2:z0l .rem (.int .u8 (.ofNat 0)) (.int .u8 (.ofNat 128))=some (.int .u8 (.ofNat 0)):=rfl
 have z4:z1n .i64 (.ofNat 0)=.ofNat 0:=rfl
 have z5:z0l .add (.int .i64 (.ofNat 0)) (.int .i64 (.ofNat 1))=some (.int .i64 (.ofNat 1)):=rfl
 suffices hh:∃ r H',z0f E 361 [.ptr q 0,.int .i64 (.ofNat at')] H r H'/\(r=.tup [.int .i64 (.ofNat 0),.int .i64 (.ofNat (at'+1)),.int .i64 (.ofNat 0)]/\H'=H)from by
  obtain⟨_,_,hc,rfl,rfl⟩:=hh
  exact hc
 refine C.c361.rr (by conv=>lhs;reduce) ?_
 simp(maxDischargeDepth:=9)only[auX,bq,reduceCtorEq,aZ,hl_g g,s,eq_true ha,i1,i2]
 refine W.loopI (fun k t G=>G=H/\PT.get .h t=some (.ptr q 0)/\PT.get (.o .h) t=some (.int .i64 (.ofNat at'))/\PT.get (.o (.o (.o .h))) t=some (.int .i64 (.ofNat 0))) ?_ 0 _ _ ⟨rfl,rfl,rfl,rfl⟩
 rintro k t G ⟨rfl,t0,t1,t7⟩
 simp(maxDischargeDepth:=9)only[auX,bq,reduceCtorEq,↓reduceIte,aZ,t0,t1,t7,hl_g g,s,a0,eq_true ha,i1,i2,eq_true (show 0<9 by omega),eq_false (show ¬ 128<=0 by omega),eq_false (show ¬ at'=us.length by omega)]
 refine W.loopI (fun k t H'=>G=H'/\PT.get .h t=some (.ptr q 0)/\PT.get (.o .h) t=some (.int .i64 (.ofNat at'))/\PT.get (.o (.o (.o .h))) t=some (.int .i64 (.ofNat 0))/\PT.get (.i (.o (.o .h))) t=some (.int .i64 (.ofNat 0))/\PT.get (.o (.i (.o .h))) t=some (.int .i64 (.ofNat (1-k)))/\k<=1) ?_ 1 _ _ ?_
 rotate_left
 .exact⟨rfl,by simp(maxDischargeDepth:=9)only[auX,t0],by simp(maxDischargeDepth:=9)only[auX,t1],by simp(maxDischargeDepth:=9)only[auX,t7],by simp(maxDischargeDepth:=9)only[auX],by simp(maxDischargeDepth:=9)only[auX,Nat.reduceSub],lr⟩
 rintro k t H' ⟨rfl,t0,t1,t7,t8,t9,hk⟩
 obtain rfl | rfl:k=0\/k=1:=by omega
 .simp(maxDischargeDepth:=9)only[auX,↓reduceIte,Nat.reduceSub,t1,t7,t8,t9,a0,eq_false (show ¬ 1-0<=0 by omega),z0o (i:=at') (k:=1) (by omega)]
 .simp(maxDischargeDepth:=9)only[auX,Nat.reduceSub,aZ,t0,t1,t7,t8,t9,hl_g g,a0,i1,i2,z1,z2,z4,z5,k19,eq_true (Nat.le_refl 0)]
  exact⟨0,by omega,rfl,by omega⟩
theorem q7e{H:AHeap}{q:Pos}{w:AVal}{us:List Nat}{at':Nat}(g:PT.get q H.t=some (.cells [w,.int .i64 (.ofNat at'),.int .i64 (.ofNat 0)] false false))(h:By H w us)(ha:at'<us.length)(hz:us[at']=0)(hl:us.length<=1000000) :z0f E 335 [.ptr q 0] H (.int .i64 (.ofNat 0)) (H.upd q (.cells [w,.int .i64 (.ofNat (at'+1)),.int .i64 (.ofNat 0)] false false)):=by
 have c:=q63 C g h ha hz hl
 have s:=h.sc
 refine C.c335.re (by conv=>lhs;reduce) ?_
 simp(maxDischargeDepth:=9)only[auX,zA,hl_g g,z0c c,z0z g]
theorem j81{H:AHeap}{v w:AVal}{uss vss:List (List Nat)}(h1:LR H v uss)(h2:LR H w vss)(hl:uss.length<=1000000) :z0f E 227 [v,w] H (.bool (decide (uss=vss))) H:=by
 obtain⟨xs,rfl,rx,bx⟩:=h1
 obtain⟨ys,rfl,ry,by'⟩:=h2
 have lx:∀ H2,fLen H2 1 v=some (.int .i64 (.ofNat xs.length)):=fun _=>rx.len
 have ly:∀ H2,fLen H2 1 w=some (.int .i64 (.ofNat ys.length)):=fun _=>ry.len
 rw[List.length_map]at hl
 have sx:=And.intro rx.scal rx.same
 have sy:=And.intro ry.scal ry.same
 suffices hh:∃ r H2,z0f E 227 [v,w] H r H2/\(r=.bool (decide (xs.map (·.2)=ys.map (·.2)))/\H2=H)from by
  obtain⟨_,_,hc,rfl,rfl⟩:=hh
  exact hc
 refine C.c227.rr (by conv=>lhs;reduce) ?_
 by_cases hxy:xs.length=ys.length
 .simp(maxDischargeDepth:=9)only[auX,lx,ly,eq_true hxy]
  refine W.loopI (fun k t H2=>∃ i,i+k=xs.length/\H2=H/\(∀ j (h1:j<xs.length) (h2:j<ys.length),j<i->xs[j].2=ys[j].2)/\PT.get .h t=some (v)/\PT.get (.o .h) t=some (w)/\PT.get (.o (.i .h)) t=some (.int .i64 (.ofNat i))) ?_ xs.length _ _ ⟨0,by omega,rfl,fun j _ _ h=>by omega,rfl,rfl,rfl⟩
  rintro k t H2 ⟨i,hi,rfl,hj,t0,t1,t5⟩
  by_cases hk:k=0
  .obtain rfl:i=xs.length:=by omega
   have e:xs.map (·.2)=ys.map (·.2):=by
    apply List.ext_getElem (by simpa using hxy)
    intro j a b
    rw[List.getElem_map,List.getElem_map]
    exact hj j (by simpa using a) (by simpa using b) (by simpa using a)
   simp(maxDischargeDepth:=9)only[auX,↓reduceIte,t0,t5,lx,eq_false (Nat.lt_irrefl xs.length)]
   rw[e]
   simp
  .have hx:i<xs.length:=by omega
   have hy:i<ys.length:=by omega
   obtain⟨p,o,i1,i2⟩:=Rd.at1 rx (i:=i) (x:=xs[i].1) (by simp[hx])
   obtain⟨q,u,j1,j2⟩:=Rd.at1 ry (i:=i) (x:=ys[i].1) (by simp[hy])
   have b1:=bx _ (List.getElem_mem hx)
   have b2:=by' _ (List.getElem_mem hy)
   have c:=z9z C b1.str b2.str
   rw[z1j]at c
   have c1:=b1.sc
   have c2:=b2.sc
   by_cases he:xs[i].2=ys[i].2
   .rw[decide_eq_true he]at c
    simp(maxDischargeDepth:=9)only[auX,reduceCtorEq,Nat.reduceAnd,t0,t1,t5,lx,hx,i1,i2,j1,j2,z0j c,z0o (i:=i) (k:=1) (by omega)]
    refine⟨k-1,by omega,i+1,by omega,fun j a b hji=>?_,rfl⟩
    by_cases ej:j=i
    .subst ej;exact he
    .exact hj j a b (by omega)
   .rw[decide_eq_false he]at c
    simp(maxDischargeDepth:=9)only[auX,reduceCtorEq,Nat.reduceAnd,t0,t1,t5,lx,hx,i1,i2,j1,j2,z0j c]
    have:¬ xs.map (·.2)=ys.map (·.2):=fun e=>he (by
     have:=congrArg (fun l=>l[i]?) e
     simpa[hx,hy]using this)
    simp[this]
 .simp(maxDischargeDepth:=9)only[auX,lx,ly,eq_false hxy]
  have:¬ xs.map (·.2)=ys.map (·.2):=fun e=>hxy (by simpa using congrArg List.length e)
  simp[this]
end
section
variable{E:Env}(C:Ck E)
include C
theorem k1m{H:AHeap}{w v:AVal}{n crc:Nat}(hw:By H w (z6b n))(hL:LR H v (z15 n crc))(hn:n<=2000)(hcr:crc<4294967296) :∃ vc vs vd H',z0f E 340 [w,v] H (.tup [.agg (mfc n vc vs vd),.int .i64 (.ofNat 0)]) H'/\MfO (H.nx.toNat+1) H' vc vs vd n crc/\Keep H.nx.toNat H H':=by
 have ne (a b:Pos) (h:a.toNat≠b.toNat) :a≠b:=fun e=>h (congrArg _ e)
 have c1:=cl1 n
 have hl:(z6b n).length=12:=by simp[z0k]
 obtain⟨e0,e1,e2⟩:=y3f (a:=1) (b:=n) (c:=(cutL n).length) (by omega) (by omega) (by omega)
 obtain⟨A1,hA1⟩ :∃ A,A=(H.new (.cells [.int .i64 (.ofNat 0),.int .i64 (.ofNat 0),.snil,.snil,.snil] false false)).2:=⟨_,rfl⟩
 have k1:Keep H.nx.toNat H A1:=by rw[hA1];exact z0d
 have n1:A1.nx.toNat=H.nx.toNat+1:=by rw[hA1];exact Pos.toNat_succ _
 have gp1:PT.get H.nx A1.t=some (.cells [.int .i64 (.ofNat 0),.int .i64 (.ofNat 0),.snil,.snil,.snil] false false):=by rw[hA1];exact z0i
 obtain⟨A2,hA2⟩ :∃ A,A=(A1.new (.cells [.int .i64 (.ofNat 1),.int .i64 (.ofNat n),.snil,.snil,.snil] false false)).2:=⟨_,rfl⟩
 have k2:Keep A1.nx.toNat A1 A2:=by rw[hA2];exact z0d
 have n2:A2.nx.toNat=A1.nx.toNat+1:=by rw[hA2];exact Pos.toNat_succ _
 have gq2:PT.get A1.nx A2.t=some (.cells [.int .i64 (.ofNat 1),.int .i64 (.ofNat n),.snil,.snil,.snil] false false):=by rw[hA2];exact z0i
 have kk2:=k1.trans (k2.mono (by omega))
 have num:∀ G,Keep H.nx.toNat H G->∀ k,k+4<=12->z0f E 364 [w,.int .i64 (.ofNat k)] G (.int .i64 (.ofNat (be4 (z6b n) k))) G:=fun G kG k hk=>y1z C (hw.keep kG lr) (by rw[hl];omega) (by rw[hl];omega)
 have N0:=num A1 k1 0 (by omega)
 have N4:=num A1 k1 4 (by omega)
 have N8:=num A2 kk2 8 (by omega)
 rw[show(0:Nat)=4*0 from rfl,e0]at N0
 rw[show(4:Nat)=4*1 from rfl,e1]at N4
 rw[show(8:Nat)=4*2 from rfl,e2]at N8
 have sw:=hw.sc
 rw[hl]at sw
 obtain⟨lv,sv⟩:=hL.len
 have ml:=z6m n crc hn
 suffices hh:∃ r H',z0f E 340 [w,v] H r H'/\(∃ vc vs vd,r=.tup [.agg (mfc n vc vs vd),.int .i64 (.ofNat 0)]/\MfO (H.nx.toNat+1) H' vc vs vd n crc/\Keep H.nx.toNat H H')from by
  obtain⟨_,H',hc,vc,vs,vd,rfl,a⟩:=hh
  exact⟨vc,vs,vd,H',hc,a⟩
 refine C.c340.rr (by conv=>lhs;reduce) ?_
 simp(maxDischargeDepth:=9)only[auX]
 rw[<-hA1]
 simp(maxDischargeDepth:=9)only[auX,Nat.reduceAdd,zA,sw,z0c N0,z0c N4]
 rw[<-hA2]
 simp(maxDischargeDepth:=9)only[auX,z0c N8]
 refine W.loopI (fun k t G=>∃ i vc vs vd,i+k=(z15 n crc).length/\PT.get A1.nx G.t=some (.cells [.int .i64 (.ofNat 1),.int .i64 (.ofNat n),vc,vs,vd] false false)/\((i=0/\vc=.snil/\vs=.snil/\vd=.snil)\/(0<i/\GO 1 A2.nx.toNat G vc (cutL n).length (cutL n)/\GO 3 A2.nx.toNat G vs (cutL n).length (shL n crc)/\GO 1 A2.nx.toNat G vd (min n (200*(i-1))) (zs (min n (200*(i-1))))/\∀ p,blk vd p->¬ blk vc p/\¬ blk vs p))/\ButN A2.nx.toNat A1.nx A2 G/\PT.get .h t=some (w)/\PT.get (.o .h) t=some (v)/\PT.get (.i (.o .h)) t=some (.ptr H.nx 0)/\PT.get (.i (.i .h)) t=some (.ptr A1.nx 0)/\PT.get (.o (.o (.o .h))) t=some (.int .i64 (.ofNat (cutL n).length))/\PT.get (.i (.o (.o .h))) t=some (.int .i64 (.ofNat i))) ?_ (z15 n crc).length _ _ ?_
 rotate_left
 .exact⟨0,.snil,.snil,.snil,by omega,gq2,.inl ⟨rfl,rfl,rfl,rfl⟩,⟨lr,fun _ _ _=>rfl⟩,rfl,rfl,rfl,rfl,rfl,rfl⟩
 rintro k t G ⟨i,vc,vs,vd,hi,gq,hor,bG,t0,t1,t4,t6,t7,t8⟩
 have nG:=bG.nx
 have kG:=bG.keep kk2 (by omega) (by omega)
 by_cases hk:k=0
 .obtain rfl:i=(z15 n crc).length:=by omega
  have M:MfO (H.nx.toNat+1) G vc vs vd n crc:=by
   rcases hor with⟨h0,rfl,rfl,rfl⟩ | ⟨h0,G1,G2,G3,_⟩
   .have hz:n=0:=by
     rcases Nat.eq_zero_or_pos n with h | h
     .exact h
     .exfalso
      unfold z15 at h0
      rw[z8j (by omega)]at h0
      simp at h0
    subst hz
    exact⟨⟨(GO.nil (N:=0)).1.rd,(GO.nil (N:=0)).1.rd,(GO.nil (N:=0)).1.rd⟩,fun p hp=>by rcases hp with h | h | h<;>cases h⟩
   .have hz:n≠0:=fun h=>by subst h;simp[y70]at h0
    have e:min n (200*((z15 n crc).length-1))=n:=by
     unfold z15
     rw[z8j hz]
     simp[z1r]
     omega
    rw[e]at G3
    exact⟨⟨G1.1.rd,G2.1.rd,G3.1.rd⟩,fun p hp=>by
     rcases hp with h | h | h
     .have:=G1.2 p h;omega
     .have:=G2.2 p h;omega
     .have:=G3.2 p h;omega⟩
  obtain⟨wh,l,A5,c5,Bh,Ll,k5⟩:=q5d C M.1 hn hcr
  have n5:=k5.nx
  have kk5:=kG.trans (k5.mono (by omega))
  have gq5:=(k5.get _ (by omega)).trans gq
  have gp5:PT.get H.nx A5.t=some (.cells [.int .i64 (.ofNat 0),.int .i64 (.ofNat 0),.snil,.snil,.snil] false false):=(k5.get _ (by omega)).trans ((bG.get _ (by omega) (ne _ _ (by omega))).trans ((k2.get _ (by omega)).trans gp1))
  have M5:=M.other (fun p _ hp=>k5.get p hp) n5
  have hL5:LR A5 v (z15 n crc):=by
   obtain⟨ys,a,b,c⟩:=hL
   exact⟨ys,a,b.keep kk5 lr,fun z hz=>(c z hz).keep kk5 lr⟩
  have hLl:LR A5 l (z15 n crc):=by
   obtain⟨ys,a,b,c⟩:=Ll
   exact⟨ys,a,b.1.rd,fun z hz=>(c z hz).1.by⟩
  have cE:=j81 C hLl hL5 (by omega)
  rw[decide_eq_true rfl]at cE
  have cS:=z9z C Bh.by.str (hw.keep kk5 lr).str
  rw[z1j,decide_eq_true rfl]at cS
  have sl:=Ll.sc
  have sh:=Bh.by.sc
  have sm:=M5.1.sc
  have st:=z0z gp5 (o:=0) (vs:=mfc n vc vs vd) (z5w M5.1) rfl
  simp(maxDischargeDepth:=9)only[auX,bq,↓reduceIte,Nat.reduceAdd,zA,t0,t1,t4,t6,t8,lv,eq_false (Nat.lt_irrefl (z15 n crc).length),hn_g gq,z0c c5,z0c cS,z0c cE,hn_g gq5,mfc,st]
  exact⟨_,_,_,rfl,M5.other (fun p hp _=>z0a (ne _ _ (by omega))) lr,kk5.trans (z0s lr)⟩
 .have hi2:i<(z15 n crc).length:=by omega
  have h0:n≠0:=fun h=>by subst h;simp[y70]at hi2
  have hcl:=z60 h0
  have hmd:z15 n crc=(b4 n++b4 41++b4 crc++b4 0)::z1r n ((n+199)/200):=by unfold z15;rw[z8j h0];rfl
  have hml:(z15 n crc).length=(n+199)/200+1:=by rw[hmd];simp[z1r]
  obtain⟨p0,o0,w0,i1,b0,iK⟩:=hL.at hi2
  have s0:=b0.sc
  rcases hor with⟨rfl,rfl,rfl,rfl⟩ | ⟨hi0,G1,G2,G3,dis⟩
  .have ez:(z15 n crc)[0]=b4 n++b4 41++b4 crc++b4 0:=by simp only[hmd,List.getElem_cons_zero]
   rw[ez]at b0 s0
   have hlen:(b4 n++b4 41++b4 crc++b4 0).length=16:=by simp[z0k]
   rw[hlen]at s0
   obtain⟨f0,f1,f2,f3⟩:=q0a (a:=n) (b:=41) (c:=crc) (d:=0) (by omega) (by omega) hcr (by omega)
   have num:∀ (D:AHeap),Keep H.nx.toNat H D->∀ k,k+4<=16->z0f E 364 [w0,.int .i64 (.ofNat k)] D (.int .i64 (.ofNat (be4 (b4 n++b4 41++b4 crc++b4 0) k))) D:=fun D kD k hk=>y1z C (b0.keep kD lr) (by rw[hlen];omega) (by rw[hlen];omega)
   obtain⟨vc,H1,a1,G1,K1⟩:=z4q (H:=G) (k:=1) (by':=8) (N:=G.nx.toNat) (v:=.snil) (n:=0) (cs:=[]) (by omega) GO.nil lr (row:=[.int .i64 (.ofNat n)]) rfl rfl (by omega)
   have m1:=K1.nx
   have gx:PT.get A1.nx (G.new (.cells [.int .i64 (.ofNat n)] false false)).2.t=some (.cells [.int .i64 (.ofNat 1),.int .i64 (.ofNat n),.snil,.snil,.snil] false false):=(z0d.get _ (by omega)).trans gq
   have g1:=(K1.get A1.nx (by omega)).trans gq
   have sc1:=And.intro G1.1.rd.scal G1.1.rd.same
   have t1':=z0z g1 (o:=2) (vs:=[vc]) (by rw[z0p sc1.1];rfl) rfl
   obtain⟨H2,hH2⟩ :∃ A,A=H1.upd A1.nx (.cells [.int .i64 (.ofNat 1),.int .i64 (.ofNat n),vc,.snil,.snil] false false):=⟨_,rfl⟩
   have m2:H2.nx=H1.nx:=by rw[hH2];rfl
   have z2:H2.nx.toNat=H1.nx.toNat:=by rw[m2]
   have g2:PT.get A1.nx H2.t=some (.cells [.int .i64 (.ofNat 1),.int .i64 (.ofNat n),vc,.snil,.snil] false false):=by rw[hH2];exact z0q
   have fr2:∀ p:Pos,p≠A1.nx->PT.get p H2.t=PT.get p H1.t:=fun p hp=>by rw[hH2];exact z0a (Ne.symm hp)
   have kB2:Keep H.nx.toNat H H2:=⟨by have:=kG.nx;omega,fun p hp=>by rw[fr2 p (ne _ _ (by omega)),K1.get _ (by omega),kG.get p hp]⟩
   obtain⟨vs,H3,a3,G3,K3⟩:=z4q (H:=H2) (k:=3) (by':=24) (N:=H2.nx.toNat) (v:=.snil) (n:=0) (cs:=[]) (by omega) GO.nil lr (row:=[.int .i64 (.ofNat 41),.int .u32 (.ofNat crc),.int .i64 (.ofNat 0)]) rfl rfl (by omega)
   have m3:=K3.nx
   have gy:PT.get A1.nx (H2.new (.cells [.int .i64 (.ofNat 41),.int .u32 (.ofNat crc),.int .i64 (.ofNat 0)] false false)).2.t=some (.cells [.int .i64 (.ofNat 1),.int .i64 (.ofNat n),vc,.snil,.snil] false false):=(z0d.get _ (by omega)).trans g2
   have g3:=(K3.get A1.nx (by omega)).trans g2
   have sc3:=And.intro G3.1.rd.scal G3.1.rd.same
   have t3':=z0z g3 (o:=3) (vs:=[vs]) (by rw[z0p sc3.1];rfl) rfl
   have e1':cutL n=[.int .i64 (.ofNat n)]:=by simp[cutL,h0]
   have e2':shL n crc=[.int .i64 (.ofNat 41),.int .u32 (.ofNat crc),.int .i64 (.ofNat 0)]:=by simp[shL,h0]
   have Gc:GO 1 A2.nx.toNat (H3.upd A1.nx (.cells [.int .i64 (.ofNat 1),.int .i64 (.ofNat n),vc,vs,.snil] false false)) vc (cutL n).length (cutL n):=by
    rw[e1']
    exact⟨G1.1.other (fun p hp=>by
     have h1:=G1.2 p hp
     have h2:=G1.1.rd.blk_lt p hp
     rw[z0a (ne _ _ (by omega)),K3.get _ (by omega),fr2 _ (ne _ _ (by omega))]) (by show _<=H3.nx.toNat;omega),fun p hp=>by have:=G1.2 p hp;omega⟩
   have Gs:GO 3 A2.nx.toNat (H3.upd A1.nx (.cells [.int .i64 (.ofNat 1),.int .i64 (.ofNat n),vc,vs,.snil] false false)) vs (cutL n).length (shL n crc):=by
    rw[hcl,e2']
    exact⟨G3.1.other (fun p hp=>by
     have h1:=G3.2 p hp
     rw[z0a (ne _ _ (by omega))]) lr,fun p hp=>by have:=G3.2 p hp;omega⟩
   have bF:ButN A2.nx.toNat A1.nx A2 (H3.upd A1.nx (.cells [.int .i64 (.ofNat 1),.int .i64 (.ofNat n),vc,vs,.snil] false false)):=⟨by show _<=H3.nx.toNat;omega,fun p hp hpq=>by rw[z0a (Ne.symm hpq),K3.get _ (by omega),fr2 _ hpq,K1.get _ (by omega),bG.get p hp hpq]⟩
   have gF:PT.get A1.nx (H3.upd A1.nx (.cells [.int .i64 (.ofNat 1),.int .i64 (.ofNat n),vc,vs,.snil] false false)).t=some (.cells [.int .i64 (.ofNat 1),.int .i64 (.ofNat n),vc,vs,.snil] false false):=z0q
   have M0:=num G kG 0 (by omega)
   have M1:=num H2 kB2 4 (by omega)
   have M2:=num H2 kB2 8 (by omega)
   have M3:=num H2 kB2 12 (by omega)
   rw[show(0:Nat)=4*0 from rfl,f0]at M0
   rw[show(4:Nat)=4*1 from rfl,f1]at M1
   rw[show(8:Nat)=4*2 from rfl,f2]at M2
   rw[show(12:Nat)=4*3 from rfl,f3]at M3
   have kN:=kB2.trans (z0d (x:=.cells [.int .i64 (.ofNat 41),.int .u32 (.ofNat crc),.int .i64 (.ofNat 0)] false false) |>.mono kB2.nx)
   have kM:=kG.trans (z0d (x:=.cells [.int .i64 (.ofNat n)] false false) |>.mono kG.nx)
   have kF:Keep H.nx.toNat H (H3.upd A1.nx (.cells [.int .i64 (.ofNat 1),.int .i64 (.ofNat n),vc,vs,.snil] false false)):=bF.keep kk2 (by omega) (by omega)
   simp(maxDischargeDepth:=9)only[auX,zA,t1,t6,t7,t8,lv,eq_true hi2,hl_g gq,hcl,eq_true (show 0<1 by omega)]
   refine W.loopI (fun k2 t D=>((k2=1/\G=D/\PT.get (.o (.i (.o .h))) t=some (.int .i64 (.ofNat 0)))\/(k2=0/\D=H3.upd A1.nx (.cells [.int .i64 (.ofNat 1),.int .i64 (.ofNat n),vc,vs,.snil] false false)/\PT.get (.o (.i (.o .h))) t=some (.int .i64 (.ofNat 16))))/\PT.get .h t=some (w)/\PT.get (.o .h) t=some (v)/\PT.get (.i (.o .h)) t=some (.ptr H.nx 0)/\PT.get (.i (.i .h)) t=some (.ptr A1.nx 0)/\PT.get (.o (.o (.o .h))) t=some (.int .i64 (.ofNat 1))/\PT.get (.i (.o (.o .h))) t=some (.int .i64 (.ofNat 0))) ?_ 1 _ _ ?_
   rotate_left
   .exact⟨.inl ⟨rfl,rfl,by simp(maxDischargeDepth:=9)only[auX]⟩,by simp(maxDischargeDepth:=9)only[auX,t0],by simp(maxDischargeDepth:=9)only[auX,t1],by simp(maxDischargeDepth:=9)only[auX,t4],by simp(maxDischargeDepth:=9)only[auX,t6],by simp(maxDischargeDepth:=9)only[auX,t7,hcl],by simp(maxDischargeDepth:=9)only[auX,t8]⟩
   rintro k2 t D ⟨⟨rfl,rfl,t9⟩ | ⟨rfl,rfl,t9⟩,t0,t1,t4,t6,u7,t8⟩
   .simp(maxDischargeDepth:=9)only[auX,reduceCtorEq,zA,Nat.reduceAnd,t1,t6,t8,t9,i1,iK _ kG,s0,z0o (i:=0) (k:=16) (by omega),eq_true (Nat.le_refl 16),hl_g gq,z0j M0,z16 a1,sc1,t1']
    rw[<-hH2]
    simp(maxDischargeDepth:=9)only[auX,reduceCtorEq,Nat.reduceAdd,zA,Nat.reduceAnd,t0,t1,t4,t6,u7,t8,t9,sv,i1,iK _ kB2,s0,z0o (i:=0) (k:=4) (by omega),z0o (i:=0) (k:=8) (by omega),z0o (i:=0) (k:=12) (by omega),hl_g g2,z0j M1,z0j M2,z0j M3,Nat.mod_eq_of_lt hcr,z16 a3,sc3,t3',z0o (i:=0) (k:=16) (by omega)]
    exact⟨0,by omega,.inr rfl⟩
   .simp(maxDischargeDepth:=9)only[auX,↓reduceIte,Nat.reduceAdd,zA,t0,t1,t4,t6,u7,t8,t9,i1,iK _ kF,s0,z0o (i:=16) (k:=16) (by omega),eq_false (show ¬ 32<=16 by omega),z0o (i:=0) (k:=1) (by omega)]
    rw[hcl]at Gc Gs
    exact⟨k-1,by omega,1,vc,vs,.snil,by omega,rfl,.inr ⟨by omega,Gc,Gs,by rw[show min n (200*(1-1))=0 by omega];exact GO.nil,fun p hp=>by cases hp⟩,bF,rfl⟩
  .have ez:(z15 n crc)[i]=zrow n (i-1):=by
    obtain⟨j,rfl⟩ :∃ j,i=j+1:=⟨i-1,by omega⟩
    have h2:j<(n+199)/200:=by omega
    simp only[hmd,List.getElem_cons_succ]
    simp[z1r]
   rw[ez]at b0 s0
   generalize hj:i-1=j at b0 s0 G3 ez
   have hij:i=j+1:=by omega
   have hj2:j<(n+199)/200:=by omega
   have hlz:(zrow n j).length=min 200 (n-200*j):=by simp[zrow]
   have b0':=b0.keep kG lr
   have lc:∀ H2,fLen H2 1 vc=some (.int .i64 (.ofNat (cutL n).length)):=fun _=>G1.1.rd.len
   have scc:=And.intro G1.1.rd.scal (And.intro G1.1.rd.same (And.intro G2.1.rd.scal G2.1.rd.same))
   obtain⟨rq,w1,A,c1',gr,Bw,h1,h2,h3,h4,kA⟩:=q67 C b0' (by rw[hlz];omega)
   have nA:=kA.nx
   have gqA:=(kA.get _ (by omega)).trans gq
   have GdA:GO 1 A2.nx.toNat A vd (min n (200*j)) (zs (min n (200*j))):=⟨G3.1.keep kA lr,G3.2⟩
   have ld:=fun p hp=>G3.1.rd.blk_lt p hp
   simp(maxDischargeDepth:=9)only[auX,zA,t1,t6,t7,t8,lv,eq_true hi2,hl_g gq,lc,hcl,eq_false (Nat.lt_irrefl 1),i1,iK _ kG,z0c c1']
   refine W.loopI (fun k t D=>∃ i' vd,i'+k=min 200 (n-200*j)/\PT.get rq D.t=some (.cells [w1,.int .i64 (.ofNat i'),.int .i64 (.ofNat 0)] false false)/\By D w1 (zrow n j)/\(∀ p,blk w1 p->p.toNat<A.nx.toNat)/\PT.get A1.nx D.t=some (.cells [.int .i64 (.ofNat 1),.int .i64 (.ofNat n),vc,vs,vd] false false)/\GO 1 A2.nx.toNat D vd (200*j+i') (zs (200*j+i'))/\(∀ p,blk vd p->p.toNat<G.nx.toNat\/A.nx.toNat<=p.toNat)/\A.nx.toNat<=D.nx.toNat/\GO 1 A2.nx.toNat D vc 1 (cutL n)/\GO 3 A2.nx.toNat D vs 1 (shL n crc)/\(∀ p,blk vd p->¬ blk vc p/\¬ blk vs p)/\ButN A2.nx.toNat A1.nx A2 D/\PT.get .h t=some (w)/\PT.get (.o .h) t=some (v)/\PT.get (.i (.o .h)) t=some (.ptr H.nx 0)/\PT.get (.i (.i .h)) t=some (.ptr A1.nx 0)/\PT.get (.o (.o (.o .h))) t=some (.int .i64 (.ofNat 1))/\PT.get (.i (.o (.o .h))) t=some (.int .i64 (.ofNat i))/\PT.get (.i (.i (.o .h))) t=some (.ptr rq 0)) ?_ (min 200 (n-200*j)) _ _ ?_
   rotate_left
   .rw[show min n (200*j)=200*j by omega]at GdA
    rw[hcl]at G1 G2
    exact⟨0,vd,by omega,gr,Bw,(fun p hp=>Bw.1.blk_lt p hp),gqA,GdA,fun p hp=>.inl (ld p hp),lr,⟨G1.1.keep kA lr,G1.2⟩,⟨G2.1.keep kA lr,G2.2⟩,dis,⟨by omega,fun p hp hpq=>by rw[kA.get _ (by omega),bG.get p hp hpq]⟩,by simp(maxDischargeDepth:=9)only[auX,t0],by simp(maxDischargeDepth:=9)only[auX,t1],by simp(maxDischargeDepth:=9)only[auX,t4],by simp(maxDischargeDepth:=9)only[auX,t6],by simp(maxDischargeDepth:=9)only[auX,t7,hcl],by simp(maxDischargeDepth:=9)only[auX,t8],by simp(maxDischargeDepth:=9)only[auX]⟩
   have lcv:=fun p hp=>G1.1.rd.blk_lt p hp
   have lsv:=fun p hp=>G2.1.rd.blk_lt p hp
   rintro k2 t D ⟨i',vd,hi',gr,Bw,wA,gq,Gd,bd,nD,Gc,Gs,dis,bD,t0,t1,t4,t6,u7,t8,t10⟩
   have cl:=q1v C gr Bw (by rw[hlz];omega) (by rw[hlz];omega)
   rw[hlz]at cl
   have sd:=And.intro Gd.1.rd.scal Gd.1.rd.same
   have ldv:∀ H2,fLen H2 1 vd=some (.int .i64 (.ofNat (200*j+i'))):=fun _=>Gd.1.rd.len
   by_cases hk2:k2=0
   .obtain rfl:i'=min 200 (n-200*j):=by omega
    rw[Nat.sub_self]at cl
    simp(maxDischargeDepth:=9)only[auX,↓reduceIte,t0,t1,t4,t6,u7,t8,t10,z0c cl,eq_false (Nat.lt_irrefl 0),z0o (i:=i) (k:=1) (by omega)]
    exact⟨k-1,by omega,i+1,vc,vs,vd,by omega,gq,.inr ⟨by omega,Gc,Gs,by rw[show min n (200*(i+1-1))=200*j+min 200 (n-200*j)by omega];exact Gd,dis⟩,bD,rfl⟩
   .have hi3:i'<min 200 (n-200*j):=by omega
    have ci:=q7e C gr Bw (by rw[hlz];exact hi3) (by simp[zrow]) (by rw[hlz];omega)
    obtain⟨D1,hD1⟩ :∃ A,A=D.upd rq (.cells [w1,.int .i64 (.ofNat (i'+1)),.int .i64 (.ofNat 0)] false false):=⟨_,rfl⟩
    rw[<-hD1]at ci
    have m1:D1.nx=D.nx:=by rw[hD1];rfl
    have z1:D1.nx.toNat=D.nx.toNat:=by rw[m1]
    have f1:∀ p:Pos,p≠rq->PT.get p D1.t=PT.get p D.t:=fun p hp=>by rw[hD1];exact z0a (Ne.symm hp)
    have gr1:PT.get rq D1.t=some (.cells [w1,.int .i64 (.ofNat (i'+1)),.int .i64 (.ofNat 0)] false false):=by rw[hD1];exact z0q
    have gq1:=(f1 A1.nx (ne _ _ (by omega))).trans gq
    have Gd1:GO 1 A2.nx.toNat D1 vd (200*j+i') (zs (200*j+i')):=⟨Gd.1.other (fun p hp=>f1 p (ne _ _ (by have:=bd p hp;omega))) (by omega),Gd.2⟩
    obtain⟨v2,D2,a2,G2',K2,fr,fb,nn⟩:=z2u (by':=8) (by omega) Gd1 (by omega) (row:=[.int .i64 (.ofNat 0)]) rfl rfl (by omega)
    have gqn:PT.get A1.nx (D1.new (.cells [.int .i64 (.ofNat 0)] false false)).2.t=some (.cells [.int .i64 (.ofNat 1),.int .i64 (.ofNat n),vc,vs,vd] false false):=(z0d.get _ (by omega)).trans gq1
    have gq2:=(K2.get A1.nx (by omega)).trans gq1
    have s2:=And.intro G2'.1.rd.scal G2'.1.rd.same
    have st:=z0z gq2 (o:=4) (vs:=[v2]) (by rw[z0p s2.1];rfl) rfl
    have hlt:0<min 200 (n-200*j)-i':=by omega
    simp(maxDischargeDepth:=9)only[auX,bq,reduceCtorEq,zA,Nat.reduceAnd,t0,t1,t4,t6,u7,t8,t10,z0c cl,eq_true hlt,eq_true (show 200*j+i'<=n by omega),ldv,hl_g gq,hl_g gq1,sd,z0j ci,z16 a2,s2,st]
    have e:zs (200*j+(i'+1))=zs (200*j+i')++[.int .i64 (.ofNat 0)]:=by
     rw[<-Nat.add_assoc]
     simp only[zs,List.replicate_succ']
    have nvd:∀ p:Pos,G.nx.toNat<=p.toNat->p.toNat<A.nx.toNat->¬ blk vd p:=fun p h1 h2 e=>by have:=bd p e;omega
    have wlt:=fun p hp=>Bw.1.blk_lt p hp
    have hrq:rq.toNat<D1.nx.toNat:=by omega
    have old:∀ p:Pos,A2.nx.toNat<=p.toNat->p.toNat<G.nx.toNat->¬ blk vd p->PT.get p (D2.upd A1.nx (.cells [.int .i64 (.ofNat 1),.int .i64 (.ofNat n),vc,vs,v2] false false)).t=PT.get p D.t:=fun p h5 h6 h7=>by
     rw[z0a (ne _ _ (by omega)),fr _ (by omega) h7,f1 _ (ne _ _ (by omega))]
    refine⟨k2-1,by omega,i'+1,v2,by omega,?_,?_,wA,rfl,?_,?_,?_,?_,?_,?_,?_⟩
    .rw[z0a (ne _ _ (by omega)),fr _ hrq (nvd _ h1 h2)];exact gr1
    .exact Bw.other (fun p hp=>by
      rw[z0a (ne _ _ (by have:=h4 p hp;omega)),fr _ (by have:=wlt p hp;omega) (nvd _ (h4 p hp) (wA p hp)),f1 _ (fun e=>h3 (by rw[<-e];exact hp))]) (by show _<=D2.nx.toNat;omega)
    .rw[e]
     exact⟨G2'.1.other (fun p hp=>z0a (ne _ _ (by have:=fb p hp;omega))) lr,G2'.2⟩
    .exact fun p hp=>.inr (by have:=fb p hp;omega)
    .show _<=D2.nx.toNat;omega
    .exact⟨Gc.1.other (fun p hp=>old p (Gc.2 p hp) (lcv p hp) (fun e=>(dis p e).1 hp)) (by show _<=D2.nx.toNat;omega),Gc.2⟩
    .exact⟨Gs.1.other (fun p hp=>old p (Gs.2 p hp) (lsv p hp) (fun e=>(dis p e).2 hp)) (by show _<=D2.nx.toNat;omega),Gs.2⟩
    .exact fun p hp=>⟨fun e=>by have:=fb p hp;have:=lcv p e;omega,fun e=>by have:=fb p hp;have:=lsv p e;omega⟩
    .exact⟨by show _<=D2.nx.toNat;have:=bD.nx;omega,fun p hp hpq=>by rw[z0a (Ne.symm hpq),K2.get _ hp,f1 _ (ne _ _ (by omega)),bD.get p hp hpq]⟩
end
section
variable{E:Env}(C:Ck E)
include C
theorem y78{H:AHeap}{F:Pos}{n crc:Nat}(h:RHas H F mnm (z1z n crc))(hn:n<=2000)(hcr:crc<4294967296) :∃ vc vs vd H',z0f E 288 [.ptr F 0,.str mnm] H (.tup [.agg (mfc n vc vs vd),.bool true,.int .i64 (.ofNat 0)]) H'/\MfO (H.nx.toNat+1) H' vc vs vd n crc/\Keep H.nx.toNat H H':=by
 have ne (a b:Pos) (h:a.toNat≠b.toNat) :a≠b:=fun e=>h (congrArg _ e)
 obtain⟨A1,hA1⟩ :∃ A,A=(H.new (.cells [.int .i64 (.ofNat 0),.int .i64 (.ofNat 0),.snil,.snil,.snil] false false)).2:=⟨_,rfl⟩
 have k1:Keep H.nx.toNat H A1:=by rw[hA1];exact z0d
 have n1:A1.nx.toNat=H.nx.toNat+1:=by rw[hA1];exact Pos.toNat_succ _
 have gp1:PT.get H.nx A1.t=some (.cells [.int .i64 (.ofNat 0),.int .i64 (.ofNat 0),.snil,.snil,.snil] false false):=by rw[hA1];exact z0i
 have c2:=y07 C (h.keep k1 lr)
 obtain⟨A2,hA2⟩ :∃ A,A=A1:=⟨_,rfl⟩
 have k2:Keep A1.nx.toNat A1 A2:=by rw[hA2];exact Keep.refl _ _
 obtain⟨r,A3,c3,D,k3⟩:=y8a C (h.keep (k1.trans (k2.mono (by omega))) lr)
 have n2:=k2.nx
 have n3:=k3.nx
 rw[hA2]at c3
 rcases D with⟨hr,_⟩ | ⟨hd,ds,w,l,hr,rfl,B,L⟩
 .rw[j48 n crc hn]at hr
  cases hr
 rw[j48 n crc hn]at hr
 simp only[Option.some.injEq,Prod.mk.injEq]at hr
 obtain⟨rfl,rfl⟩:=hr
 obtain⟨vc,vs,vd,A4,c4,M,k4⟩:=k1m C B L hn hcr
 have n4:=k4.nx
 obtain⟨A5,hA5⟩ :∃ A,A=(A4.new (.cells (mfc n vc vs vd) false false)).2:=⟨_,rfl⟩
 have k5:Keep A4.nx.toNat A4 A5:=by rw[hA5];exact z0d
 have n5:=k5.nx
 have g5:PT.get A4.nx A5.t=some (.cells (mfc n vc vs vd) false false):=by rw[hA5];exact z0i
 have gp5:=(k5.get _ (by omega)).trans ((k4.get _ (by omega)).trans ((k3.get _ (by omega)).trans ((k2.get _ (by omega)).trans gp1)))
 have M5:=M.other (fun p _ hp=>k5.get p hp) n5
 have st:=z0z gp5 (o:=0) (vs:=mfc n vc vs vd) (z5w M5.1) rfl
 have sb:=B.sc
 have sl:=L.len.2
 have sm:=M5.1.sc
 refine⟨vc,vs,vd,A5.upd H.nx (.cells (mfc n vc vs vd) false false),?_,(M5.other (fun p hp _=>z0a (ne _ _ (by omega))) lr).mono (by omega),((((k1.trans (k2.mono (by omega))).trans (k3.mono (by omega))).trans (k4.mono (by omega))).trans (k5.mono (by omega))).trans (z0s lr)⟩
 refine C.c288.re (by conv=>lhs;reduce) ?_
 simp(maxDischargeDepth:=9)only[auX]
 rw[<-hA1]
 simp(maxDischargeDepth:=9)only[auX,reduceCtorEq,Nat.reduceAdd,zA,z0c c2,z0c c3,z0c c4,sm]
 rw[<-hA5]
 simp(maxDischargeDepth:=9)only[auX,Nat.reduceAdd,zA,st]
theorem q1p{H:AHeap}{F:Pos}{n crc:Nat}(h:RHas H F mnm (z1z n crc))(hn:n<=2000)(hcr:crc<4294967296) :∃ vc vs vd H',z0f E 223 [.ptr F 0] H (.tup [.agg (mfc n vc vs vd),.bool true,.int .i64 (.ofNat 0)]) H'/\MfO (H.nx.toNat+1) H' vc vs vd n crc/\Keep H.nx.toNat H H':=by
 have ne (a b:Pos) (h:a.toNat≠b.toNat) :a≠b:=fun e=>h (congrArg _ e)
 obtain⟨A1,hA1⟩ :∃ A,A=(H.new (.cells [.int .i64 (.ofNat 0),.int .i64 (.ofNat 0),.snil,.snil,.snil] false false)).2:=⟨_,rfl⟩
 have k1:Keep H.nx.toNat H A1:=by rw[hA1];exact z0d
 have n1:A1.nx.toNat=H.nx.toNat+1:=by rw[hA1];exact Pos.toNat_succ _
 have gp1:PT.get H.nx A1.t=some (.cells [.int .i64 (.ofNat 0),.int .i64 (.ofNat 0),.snil,.snil,.snil] false false):=by rw[hA1];exact z0i
 obtain⟨vc,vs,vd,A2,c2,M,k2⟩:=y78 C (h.keep k1 lr) hn hcr
 have gp2:=(k2.get _ (by omega)).trans gp1
 have st:=z0z gp2 (o:=0) (vs:=mfc n vc vs vd) (z5w M.1) rfl
 have sm:=M.1.sc
 refine⟨vc,vs,vd,A2.upd H.nx (.cells (mfc n vc vs vd) false false),?_,(M.other (fun p hp _=>z0a (ne _ _ (by omega))) lr).mono (by omega),(k1.trans (k2.mono (by omega))).trans (z0s lr)⟩
 refine C.c223.re (by conv=>lhs;reduce) ?_
 simp(maxDischargeDepth:=9)only[auX]
 rw[<-hA1]
 simp(maxDischargeDepth:=9)only[auX,Nat.reduceAdd,zA,z0c c2,st]
theorem j5k{H:AHeap}{F:Pos}{n crc:Nat}(h:RHas H F mnm (z1z n crc))(hn:n<=2000)(hcr:crc<4294967296) :∃ vc vs vd H',z0f E 156 [.ptr F 0] H (.tup [.agg (mfc n vc vs vd),.int .i64 (.ofNat 0)]) H'/\MfO (H.nx.toNat+1) H' vc vs vd n crc/\Keep H.nx.toNat H H':=by
 have ne (a b:Pos) (h:a.toNat≠b.toNat) :a≠b:=fun e=>h (congrArg _ e)
 obtain⟨A1,hA1⟩ :∃ A,A=(H.new (.cells [.int .i64 (.ofNat 0),.int .i64 (.ofNat 0),.snil,.snil,.snil] false false)).2:=⟨_,rfl⟩
 have k1:Keep H.nx.toNat H A1:=by rw[hA1];exact z0d
 have n1:A1.nx.toNat=H.nx.toNat+1:=by rw[hA1];exact Pos.toNat_succ _
 have gp1:PT.get H.nx A1.t=some (.cells [.int .i64 (.ofNat 0),.int .i64 (.ofNat 0),.snil,.snil,.snil] false false):=by rw[hA1];exact z0i
 obtain⟨vc,vs,vd,A2,c2,M,k2⟩:=q1p C (h.keep k1 lr) hn hcr
 obtain⟨A3,hA3⟩ :∃ A,A=(A2.new (.cells (mfc n vc vs vd) false false)).2:=⟨_,rfl⟩
 have n2:=k2.nx
 have k3:Keep A2.nx.toNat A2 A3:=by rw[hA3];exact z0d
 have g3:PT.get A2.nx A3.t=some (.cells (mfc n vc vs vd) false false):=by rw[hA3];exact z0i
 have gp3:=(k3.get _ (by omega)).trans ((k2.get _ (by omega)).trans gp1)
 have M3:=M.other (fun p _ hp=>k3.get p hp) k3.nx
 have st:=z0z gp3 (o:=0) (vs:=mfc n vc vs vd) (z5w M.1) rfl
 have sm:=M.1.sc
 refine⟨vc,vs,vd,A3.upd H.nx (.cells (mfc n vc vs vd) false false),?_,(M3.other (fun p hp _=>z0a (ne _ _ (by omega))) lr).mono (by omega),((k1.trans (k2.mono (by omega))).trans (k3.mono (by omega))).trans (z0s lr)⟩
 refine C.c156.re (by conv=>lhs;reduce) ?_
 simp(maxDischargeDepth:=9)only[auX]
 rw[<-hA1]
 simp(maxDischargeDepth:=9)only[auX,Nat.reduceAdd,zA,z0c c2,sm]
 rw[<-hA3]
 simp(maxDischargeDepth:=9)only[auX,Nat.reduceAdd,zA,st]
end
end Go.Am
