import Derived.Test.YtepncpggenncoaaGreatDoorDc17
set_option linter.all false
set_option maxRecDepth 20000
set_option maxHeartbeats 8000000
namespace Go.Am
open Go Go.Proofs
theorem fv1{l:List FV}{a:List Nat×List Nat}{gs:List (List Nat×List Nat)}(h:l.map (fun f=>(f.1,f.2.2))=a::gs) :∃ w l1,l=(a.1,w,a.2)::l1/\l1.map (fun f=>(f.1,f.2.2))=gs:=by
 obtain⟨f,l1,rfl,e1,e2⟩:=List.map_eq_cons_iff.1 h
 obtain⟨f1,w,f2⟩:=f
 subst e1
 exact⟨w,l1,rfl,e2⟩
theorem fv0{l:List FV}(h:l.map (fun f=>(f.1,f.2.2))=[]) :l=[]:=by simpa using h
section
variable{E:Env}(C:CkS E)
include C
theorem k2k{H:AHeap}{pr FP FD:Pos}{ct:Nat}{SP SD:Pos->Prop}{a:List Nat}(P:Pr H pr FP FD [(mnm,a,a.length)] 1 0 ct [(a,a.length)] [[(mnm,0)]] 0 ct SP SD)(hct:ct<=9000)(ha:a.length<=1000000) :∃ H',z0f E 12 [.ptr pr 0] H (.bool true) H'/\Keep H.nx.toNat H H':=by
 obtain⟨m,l,h',pv,fl,s,z0,rfl⟩:=P.p
 obtain⟨⟨nm0,p0,d0,bs0,sy0⟩,fl0,rfl,e0,z1⟩:=List.map_eq_cons_iff.1 z0
 simp only[PF.t,Prod.mk.injEq]at e0
 obtain⟨rfl,y0,rfl⟩:=e0
 have y0:=y0.symm
 subst y0
 obtain rfl:=List.map_eq_nil_iff.1 z1
 have u0:=(s.ff ⟨mnm,p0,d0,a,a.length⟩ (by simp)).2.1.2
 have rb:RB [(a,a.length)] [[(mnm,0)]] 0 ct:=⟨by simp,by simp,by simp,by first | (simp;done) | (simp;intro a b h;omega),by simp;omega,by omega,by omega⟩
 exact z67 C (gs:=[⟨mnm,p0,d0,a,a.length⟩]) s P.d rb P.g P.l
  (fun f hf=>by
   simp only[List.mem_cons,List.not_mem_nil,or_false]at hf
   rcases hf with rfl
   .exact nm_m)
  (by simp) (by show z4t [mnm]=[mnm];decide) (by show z3q [mnm]=true;decide) (by simp) (by simp)
  (fun f hf=>by
   simp only[List.mem_cons,List.not_mem_nil,or_false]at hf
   rcases hf with rfl
   .exact⟨lr,ha⟩)
  (fun f hf=>by
   simp only[List.mem_cons,List.not_mem_nil,or_false]at hf
   rcases hf with rfl
   .exact nm_m)
  (by decide)
  (fun f hf=>by
   simp only[List.mem_cons,List.not_mem_nil,or_false]at hf
   rcases hf with rfl
   .exact u0)
  (fun f hf=>by
   simp only[List.mem_cons,List.not_mem_nil,or_false]at hf
   rcases hf with rfl
   .exact lr)
  rfl (by simp[z6d,List.take_length]) (by simp[j16,hst,idxs])
theorem qsA{H:AHeap}{pr FP FD:Pos}{n crc ct:Nat}{SP SD:Pos->Prop}  (P:Pr H pr FP FD [(mnm,z1z n crc,(z1z n crc).length)] 1 0 ct [(z1z n crc,(z1z n crc).length)] [[(mnm,0)]] 0 ct SP SD) (hct:ct<=9000) (hn:n<=2000) (hT:Tab H)  :QS H pr n crc (none) FP FD:=by
 obtain⟨m,l,h',pv,fl,s,z0,rfl⟩:=P.p
 obtain⟨⟨nm0,p0,d0,bs0,sy0⟩,fl0,rfl,e0,z1⟩:=List.map_eq_cons_iff.1 z0
 simp only[PF.t,Prod.mk.injEq]at e0
 obtain⟨rfl,y0,rfl⟩:=e0
 have y0:=y0.symm
 subst y0
 obtain rfl:=List.map_eq_nil_iff.1 z1
 have u0:=(s.ff _ (List.mem_of_getElem? (i:=0) rfl)).2.1.2
 have rb:P.d=P.d:=rfl
 exact⟨P.g,P.l,⟨_,_,_,_,_,_,_,_,_,s,List.mem_of_getElem? (i:=0) rfl,rfl,rfl,nm_m,z1q n crc hn,u0,hT⟩,
  ⟨_,[],[(mnm,0)],0,ct,_,0,0,by simp,P.d,by simp,by simp,by simp,by omega,by omega,nm_m,by decide,⟨by simp,by simp⟩,rfl,z1q n crc hn,u0⟩,
  ⟨_,_,_,_,_,_,_,_,s,by show cnm∉[mnm];decide,nm_c⟩,⟨_,[],[(mnm,0)],0,ct,_,P.d,by simp,by simp,nm_c,by decide⟩⟩
theorem k2j{H:AHeap}{pr FP FD:Pos}{ct:Nat}{SP SD:Pos->Prop}{a b:List Nat}(P:Pr H pr FP FD [(mnm,a,a.length),(s10,b,b.length)] 2 0 ct [(a,a.length),(b,b.length)] [[(mnm,0),(s10,1)]] 0 ct SP SD)(hct:ct<=9000)(ha:a.length<=1000000)(hb:b.length<=1000000) :∃ H',z0f E 12 [.ptr pr 0] H (.bool true) H'/\Keep H.nx.toNat H H':=by
 obtain⟨m,l,h',pv,fl,s,z0,rfl⟩:=P.p
 obtain⟨⟨nm0,p0,d0,bs0,sy0⟩,fl0,rfl,e0,z1⟩:=List.map_eq_cons_iff.1 z0
 simp only[PF.t,Prod.mk.injEq]at e0
 obtain⟨rfl,y0,rfl⟩:=e0
 have y0:=y0.symm
 subst y0
 obtain⟨⟨nm1,p1,d1,bs1,sy1⟩,fl1,rfl,e1,z2⟩:=List.map_eq_cons_iff.1 z1
 simp only[PF.t,Prod.mk.injEq]at e1
 obtain⟨rfl,y1,rfl⟩:=e1
 have y1:=y1.symm
 subst y1
 obtain rfl:=List.map_eq_nil_iff.1 z2
 have u0:=(s.ff ⟨mnm,p0,d0,a,a.length⟩ (by simp)).2.1.2
 have u1:=(s.ff ⟨s10,p1,d1,b,b.length⟩ (by simp)).2.1.2
 have rb:RB [(a,a.length),(b,b.length)] [[(mnm,0),(s10,1)]] 0 ct:=⟨by simp,by simp,by simp,by first | (simp;done) | (simp;intro a b h;omega),by simp;omega,by omega,by omega⟩
 exact z67 C (gs:=[⟨mnm,p0,d0,a,a.length⟩,⟨s10,p1,d1,b,b.length⟩]) s P.d rb P.g P.l
  (fun f hf=>by
   simp only[List.mem_cons,List.not_mem_nil,or_false]at hf
   rcases hf with rfl | rfl
   .exact nm_m
   .exact j1v)
  (by simp) (by show z4t [mnm,s10]=[mnm,s10];decide) (by show z3q [mnm,s10]=true;decide) (by simp) (by simp)
  (fun f hf=>by
   simp only[List.mem_cons,List.not_mem_nil,or_false]at hf
   rcases hf with rfl | rfl
   .exact⟨lr,ha⟩
   .exact⟨lr,hb⟩)
  (fun f hf=>by
   simp only[List.mem_cons,List.not_mem_nil,or_false]at hf
   rcases hf with rfl | rfl
   .exact nm_m
   .exact j1v)
  (by decide)
  (fun f hf=>by
   simp only[List.mem_cons,List.not_mem_nil,or_false]at hf
   rcases hf with rfl | rfl
   .exact u0
   .exact u1)
  (fun f hf=>by
   simp only[List.mem_cons,List.not_mem_nil,or_false]at hf
   rcases hf with rfl | rfl
   .exact lr
   .exact lr)
  rfl (by simp[z6d,List.take_length]) (by simp[j16,hst,idxs];try omega)
theorem qsB{H:AHeap}{pr FP FD:Pos}{n crc ct:Nat}{SP SD:Pos->Prop}{b:List Nat}(P:Pr H pr FP FD [(mnm,z1z n crc,(z1z n crc).length),(s10,b,b.length)] 2 0 ct [(z1z n crc,(z1z n crc).length),(b,b.length)] [[(mnm,0),(s10,1)]] 0 ct SP SD)(hct:ct<=9000)(hn:n<=2000)(hT:Tab H)(hb:b.length<=1000000) :QS H pr n crc (none) FP FD:=by
 obtain⟨m,l,h',pv,fl,s,z0,rfl⟩:=P.p
 obtain⟨⟨nm0,p0,d0,bs0,sy0⟩,fl0,rfl,e0,z1⟩:=List.map_eq_cons_iff.1 z0
 simp only[PF.t,Prod.mk.injEq]at e0
 obtain⟨rfl,y0,rfl⟩:=e0
 have y0:=y0.symm
 subst y0
 obtain⟨⟨nm1,p1,d1,bs1,sy1⟩,fl1,rfl,e1,z2⟩:=List.map_eq_cons_iff.1 z1
 simp only[PF.t,Prod.mk.injEq]at e1
 obtain⟨rfl,y1,rfl⟩:=e1
 have y1:=y1.symm
 subst y1
 obtain rfl:=List.map_eq_nil_iff.1 z2
 have u0:=(s.ff _ (List.mem_of_getElem? (i:=0) rfl)).2.1.2
 have u1:=(s.ff _ (List.mem_of_getElem? (i:=1) rfl)).2.1.2
 have rb:P.d=P.d:=rfl
 exact⟨P.g,P.l,⟨_,_,_,_,_,_,_,_,_,s,List.mem_of_getElem? (i:=0) rfl,rfl,rfl,nm_m,z1q n crc hn,u0,hT⟩,
  ⟨_,[],[(mnm,0),(s10,1)],0,ct,_,0,0,by simp,P.d,by simp,by simp,by simp,by omega,by omega,nm_m,by decide,⟨by simp,by simp⟩,rfl,z1q n crc hn,u0⟩,
  ⟨_,_,_,_,_,_,_,_,s,by show cnm∉[mnm,s10];decide,nm_c⟩,⟨_,[],[(mnm,0),(s10,1)],0,ct,_,P.d,by simp,by simp,nm_c,by decide⟩⟩
theorem k2i{H:AHeap}{pr FP FD:Pos}{ct:Nat}{SP SD:Pos->Prop}{a c:List Nat}(P:Pr H pr FP FD [(mnm,a,a.length),(cnm,c,c.length)] 2 0 ct [(a,a.length),(c,c.length)] [[(cnm,1),(mnm,0)]] 0 ct SP SD)(hct:ct<=9000)(ha:a.length<=1000000)(hc:c.length<=1000000) :∃ H',z0f E 12 [.ptr pr 0] H (.bool true) H'/\Keep H.nx.toNat H H':=by
 obtain⟨m,l,h',pv,fl,s,z0,rfl⟩:=P.p
 obtain⟨⟨nm0,p0,d0,bs0,sy0⟩,fl0,rfl,e0,z1⟩:=List.map_eq_cons_iff.1 z0
 simp only[PF.t,Prod.mk.injEq]at e0
 obtain⟨rfl,y0,rfl⟩:=e0
 have y0:=y0.symm
 subst y0
 obtain⟨⟨nm1,p1,d1,bs1,sy1⟩,fl1,rfl,e1,z2⟩:=List.map_eq_cons_iff.1 z1
 simp only[PF.t,Prod.mk.injEq]at e1
 obtain⟨rfl,y1,rfl⟩:=e1
 have y1:=y1.symm
 subst y1
 obtain rfl:=List.map_eq_nil_iff.1 z2
 have u0:=(s.ff ⟨mnm,p0,d0,a,a.length⟩ (by simp)).2.1.2
 have u1:=(s.ff ⟨cnm,p1,d1,c,c.length⟩ (by simp)).2.1.2
 have rb:RB [(a,a.length),(c,c.length)] [[(cnm,1),(mnm,0)]] 0 ct:=⟨by simp,by simp,by simp,by first | (simp;done) | (simp;intro a b h;omega),by simp;omega,by omega,by omega⟩
 exact z67 C (gs:=[⟨cnm,p1,d1,c,c.length⟩,⟨mnm,p0,d0,a,a.length⟩]) s P.d rb P.g P.l
  (fun f hf=>by
   simp only[List.mem_cons,List.not_mem_nil,or_false]at hf
   rcases hf with rfl | rfl
   .exact nm_m
   .exact nm_c)
  (by simp) (by show z4t [mnm,cnm]=[cnm,mnm];decide) (by show z3q [cnm,mnm]=true;decide) (by simp) (by simp)
  (fun f hf=>by
   simp only[List.mem_cons,List.not_mem_nil,or_false]at hf
   rcases hf with rfl | rfl
   .exact⟨lr,ha⟩
   .exact⟨lr,hc⟩)
  (fun f hf=>by
   simp only[List.mem_cons,List.not_mem_nil,or_false]at hf
   rcases hf with rfl | rfl
   .exact nm_c
   .exact nm_m)
  (by decide)
  (fun f hf=>by
   simp only[List.mem_cons,List.not_mem_nil,or_false]at hf
   rcases hf with rfl | rfl
   .exact u0
   .exact u1)
  (fun f hf=>by
   simp only[List.mem_cons,List.not_mem_nil,or_false]at hf
   rcases hf with rfl | rfl
   .exact lr
   .exact lr)
  rfl (by simp[z6d,List.take_length]) (by simp[j16,hst,idxs];try omega)
theorem qsC{H:AHeap}{pr FP FD:Pos}{n crc ct:Nat}{SP SD:Pos->Prop}{c:List Nat}(P:Pr H pr FP FD [(mnm,z1z n crc,(z1z n crc).length),(cnm,c,c.length)] 2 0 ct [(z1z n crc,(z1z n crc).length),(c,c.length)] [[(cnm,1),(mnm,0)]] 0 ct SP SD)(hct:ct<=9000)(hn:n<=2000)(hT:Tab H)(hc:c.length<=1000000) :QS H pr n crc (some c) FP FD:=by
 obtain⟨m,l,h',pv,fl,s,z0,rfl⟩:=P.p
 obtain⟨⟨nm0,p0,d0,bs0,sy0⟩,fl0,rfl,e0,z1⟩:=List.map_eq_cons_iff.1 z0
 simp only[PF.t,Prod.mk.injEq]at e0
 obtain⟨rfl,y0,rfl⟩:=e0
 have y0:=y0.symm
 subst y0
 obtain⟨⟨nm1,p1,d1,bs1,sy1⟩,fl1,rfl,e1,z2⟩:=List.map_eq_cons_iff.1 z1
 simp only[PF.t,Prod.mk.injEq]at e1
 obtain⟨rfl,y1,rfl⟩:=e1
 have y1:=y1.symm
 subst y1
 obtain rfl:=List.map_eq_nil_iff.1 z2
 have u0:=(s.ff _ (List.mem_of_getElem? (i:=0) rfl)).2.1.2
 have u1:=(s.ff _ (List.mem_of_getElem? (i:=1) rfl)).2.1.2
 have rb:P.d=P.d:=rfl
 exact⟨P.g,P.l,⟨_,_,_,_,_,_,_,_,_,s,List.mem_of_getElem? (i:=0) rfl,rfl,rfl,nm_m,z1q n crc hn,u0,hT⟩,
  ⟨_,[],[(cnm,1),(mnm,0)],0,ct,_,1,0,by simp,P.d,by simp,by simp,by simp,by omega,by omega,nm_m,by decide,⟨by simp,by simp⟩,rfl,z1q n crc hn,u0⟩,
  ⟨_,_,_,_,_,_,_,_,_,s,List.mem_of_getElem? (i:=1) rfl,rfl,rfl,nm_c,hc,u1,hT⟩,⟨_,[],[(cnm,1),(mnm,0)],0,ct,_,0,1,by simp,P.d,by simp,by simp,by simp,by omega,by omega,nm_c,by decide,⟨by simp,by simp⟩,rfl,hc,u1⟩⟩
theorem k2h{H:AHeap}{pr FP FD:Pos}{ct:Nat}{SP SD:Pos->Prop}{a b c:List Nat}(P:Pr H pr FP FD [(mnm,a,a.length),(s10,b,b.length),(cnm,c,c.length)] 3 0 ct [(a,a.length),(b,b.length),(c,c.length)] [[(cnm,2),(mnm,0),(s10,1)]] 0 ct SP SD)(hct:ct<=9000)(ha:a.length<=1000000)(hb:b.length<=1000000)(hc:c.length<=1000000) :∃ H',z0f E 12 [.ptr pr 0] H (.bool true) H'/\Keep H.nx.toNat H H':=by
 obtain⟨m,l,h',pv,fl,s,z0,rfl⟩:=P.p
 obtain⟨⟨nm0,p0,d0,bs0,sy0⟩,fl0,rfl,e0,z1⟩:=List.map_eq_cons_iff.1 z0
 simp only[PF.t,Prod.mk.injEq]at e0
 obtain⟨rfl,y0,rfl⟩:=e0
 have y0:=y0.symm
 subst y0
 obtain⟨⟨nm1,p1,d1,bs1,sy1⟩,fl1,rfl,e1,z2⟩:=List.map_eq_cons_iff.1 z1
 simp only[PF.t,Prod.mk.injEq]at e1
 obtain⟨rfl,y1,rfl⟩:=e1
 have y1:=y1.symm
 subst y1
 obtain⟨⟨nm2,p2,d2,bs2,sy2⟩,fl2,rfl,e2,z3⟩:=List.map_eq_cons_iff.1 z2
 simp only[PF.t,Prod.mk.injEq]at e2
 obtain⟨rfl,y2,rfl⟩:=e2
 have y2:=y2.symm
 subst y2
 obtain rfl:=List.map_eq_nil_iff.1 z3
 have u0:=(s.ff ⟨mnm,p0,d0,a,a.length⟩ (by simp)).2.1.2
 have u1:=(s.ff ⟨s10,p1,d1,b,b.length⟩ (by simp)).2.1.2
 have u2:=(s.ff ⟨cnm,p2,d2,c,c.length⟩ (by simp)).2.1.2
 have rb:RB [(a,a.length),(b,b.length),(c,c.length)] [[(cnm,2),(mnm,0),(s10,1)]] 0 ct:=⟨by simp,by simp,by simp,by first | (simp;done) | (simp;intro a b h;omega),by simp;omega,by omega,by omega⟩
 exact z67 C (gs:=[⟨cnm,p2,d2,c,c.length⟩,⟨mnm,p0,d0,a,a.length⟩,⟨s10,p1,d1,b,b.length⟩]) s P.d rb P.g P.l
  (fun f hf=>by
   simp only[List.mem_cons,List.not_mem_nil,or_false]at hf
   rcases hf with rfl | rfl | rfl
   .exact nm_m
   .exact j1v
   .exact nm_c)
  (by simp) (by show z4t [mnm,s10,cnm]=[cnm,mnm,s10];decide) (by show z3q [cnm,mnm,s10]=true;decide) (by simp) (by simp)
  (fun f hf=>by
   simp only[List.mem_cons,List.not_mem_nil,or_false]at hf
   rcases hf with rfl | rfl | rfl
   .exact⟨lr,ha⟩
   .exact⟨lr,hb⟩
   .exact⟨lr,hc⟩)
  (fun f hf=>by
   simp only[List.mem_cons,List.not_mem_nil,or_false]at hf
   rcases hf with rfl | rfl | rfl
   .exact nm_c
   .exact nm_m
   .exact j1v)
  (by decide)
  (fun f hf=>by
   simp only[List.mem_cons,List.not_mem_nil,or_false]at hf
   rcases hf with rfl | rfl | rfl
   .exact u0
   .exact u1
   .exact u2)
  (fun f hf=>by
   simp only[List.mem_cons,List.not_mem_nil,or_false]at hf
   rcases hf with rfl | rfl | rfl
   .exact lr
   .exact lr
   .exact lr)
  rfl (by simp[z6d,List.take_length]) (by simp[j16,hst,idxs];try omega)
theorem qsD{H:AHeap}{pr FP FD:Pos}{n crc ct:Nat}{SP SD:Pos->Prop}{b c:List Nat}(P:Pr H pr FP FD [(mnm,z1z n crc,(z1z n crc).length),(s10,b,b.length),(cnm,c,c.length)] 3 0 ct [(z1z n crc,(z1z n crc).length),(b,b.length),(c,c.length)] [[(cnm,2),(mnm,0),(s10,1)]] 0 ct SP SD)(hct:ct<=9000)(hn:n<=2000)(hT:Tab H)(hb:b.length<=1000000)(hc:c.length<=1000000) :QS H pr n crc (some c) FP FD:=by
 obtain⟨m,l,h',pv,fl,s,z0,rfl⟩:=P.p
 obtain⟨⟨nm0,p0,d0,bs0,sy0⟩,fl0,rfl,e0,z1⟩:=List.map_eq_cons_iff.1 z0
 simp only[PF.t,Prod.mk.injEq]at e0
 obtain⟨rfl,y0,rfl⟩:=e0
 have y0:=y0.symm
 subst y0
 obtain⟨⟨nm1,p1,d1,bs1,sy1⟩,fl1,rfl,e1,z2⟩:=List.map_eq_cons_iff.1 z1
 simp only[PF.t,Prod.mk.injEq]at e1
 obtain⟨rfl,y1,rfl⟩:=e1
 have y1:=y1.symm
 subst y1
 obtain⟨⟨nm2,p2,d2,bs2,sy2⟩,fl2,rfl,e2,z3⟩:=List.map_eq_cons_iff.1 z2
 simp only[PF.t,Prod.mk.injEq]at e2
 obtain⟨rfl,y2,rfl⟩:=e2
 have y2:=y2.symm
 subst y2
 obtain rfl:=List.map_eq_nil_iff.1 z3
 have u0:=(s.ff _ (List.mem_of_getElem? (i:=0) rfl)).2.1.2
 have u1:=(s.ff _ (List.mem_of_getElem? (i:=1) rfl)).2.1.2
 have u2:=(s.ff _ (List.mem_of_getElem? (i:=2) rfl)).2.1.2
 have rb:P.d=P.d:=rfl
 exact⟨P.g,P.l,⟨_,_,_,_,_,_,_,_,_,s,List.mem_of_getElem? (i:=0) rfl,rfl,rfl,nm_m,z1q n crc hn,u0,hT⟩,
  ⟨_,[],[(cnm,2),(mnm,0),(s10,1)],0,ct,_,1,0,by simp,P.d,by simp,by simp,by simp,by omega,by omega,nm_m,by decide,⟨by simp,by simp⟩,rfl,z1q n crc hn,u0⟩,
  ⟨_,_,_,_,_,_,_,_,_,s,List.mem_of_getElem? (i:=2) rfl,rfl,rfl,nm_c,hc,u2,hT⟩,⟨_,[],[(cnm,2),(mnm,0),(s10,1)],0,ct,_,0,2,by simp,P.d,by simp,by simp,by simp,by omega,by omega,nm_c,by decide,⟨by simp,by simp⟩,rfl,hc,u2⟩⟩
end
def g3(g:List Nat×List Nat) :F3:=(g.1,g.2,g.2.length)
def g2(g:List Nat×List Nat) :List Nat×Nat:=(g.2,g.2.length)
def esG(n:Nat) :List Ent:=if n=0 then[(mnm,0)]else[(mnm,0),(s10,1)]
def esC(n:Nat) :List Ent:=if n=0 then[(cnm,1),(mnm,0)]else[(cnm,2),(mnm,0),(s10,1)]
theorem gf0:z3k 0=[(mnm,z1z 0 (crcS 0))]:=rfl
theorem gf1{n:Nat}(h:n≠0) :z3k n=[(mnm,z1z n (crcS n)),(s10,j4o n)]:=by unfold z3k;rw[if_neg h]
theorem y1f(z:AVal) :∀ n,repl [z] n=List.replicate n z
 | 0=>rfl
 | n+1=>by rw[List.replicate_succ,<-y1f z n];rfl
theorem q9j{H:AHeap}{l:List AVal}{k:Nat}(hl:l.length=k) :Rd k (H.new (.cells l false false)).2 (.sl H.nx 0 1 1 0) 1 l :=
 ⟨by omega,.inr ⟨H.nx,0,1,0,rfl,by rw[z2x z0i,z27 (by omega),List.drop_zero,Nat.one_mul,<-hl,List.take_length],.inl rfl,lr,z0h⟩⟩
theorem Pr.lt{H:AHeap}{pr FP FD:Pos}{fs:List F3}{nl np ct:Nat}{files:List (List Nat×Nat)}{dirs:List (List Ent)}{nd ctd:Nat}{SP SD:Pos->Prop}(h:Pr H pr FP FD fs nl np ct files dirs nd ctd SP SD)(p:Pos)(hp:SP p\/SD p) :p.toNat<H.nx.toNat:=hp.elim (h.p.lt p) (h.d.lt p)
theorem okM{w:AVal}{a:List Nat}(h:a.length<=1000000) :OkF [] 0 [] [(mnm,w,a)]:=⟨nm_m,h,by show mnm∉([] :List (List Nat));decide,by show ratF mnm ([] :List Ent) 0=_;decide,⟨0,by show ratF mnm (z1k ([] :List Ent) 0 mnm) 0=_;decide,by show 0<(z1k ([] :List Ent) 0 mnm).length;decide,by show(z1k ([] :List Ent) 0 mnm)[0].2=0;decide⟩,by show(z1k ([] :List Ent) 0 mnm).length<=20;decide,by show ∀ e∈(z1k ([] :List Ent) 0 mnm),e.2<0+1;decide,trivial⟩
theorem okMS{w w2:AVal}{a b:List Nat}(h:a.length<=1000000)(h2:b.length<=1000000) :OkF [] 0 [] [(mnm,w,a),(s10,w2,b)]:=⟨nm_m,h,by show mnm∉([] :List (List Nat));decide,by show ratF mnm ([] :List Ent) 0=_;decide,⟨0,by show ratF mnm (z1k ([] :List Ent) 0 mnm) 0=_;decide,by show 0<(z1k ([] :List Ent) 0 mnm).length;decide,by show(z1k ([] :List Ent) 0 mnm)[0].2=0;decide⟩,by show(z1k ([] :List Ent) 0 mnm).length<=20;decide,by show ∀ e∈(z1k ([] :List Ent) 0 mnm),e.2<0+1;decide,⟨j1v,h2,by show s10∉[mnm];decide,by show ratF s10 (z1k ([] :List Ent) 0 mnm) 0=_;decide,⟨1,by show ratF s10 (z1k (z1k ([] :List Ent) 0 mnm) 1 s10) 0=_;decide,by show 1<(z1k (z1k ([] :List Ent) 0 mnm) 1 s10).length;decide,by show(z1k (z1k ([] :List Ent) 0 mnm) 1 s10)[1].2=1;decide⟩,by show(z1k (z1k ([] :List Ent) 0 mnm) 1 s10).length<=20;decide,by show ∀ e∈(z1k (z1k ([] :List Ent) 0 mnm) 1 s10),e.2<1+1;decide,trivial⟩⟩
theorem okC0{w:AVal}{a:List Nat}(h:a.length<=1000000) :OkF [(mnm,0)] 1 [mnm] [(cnm,w,a)]:=⟨nm_c,h,by show cnm∉[mnm];decide,by show ratF cnm [(mnm,0)] 0=_;decide,⟨0,by show ratF cnm (z1k [(mnm,0)] 1 cnm) 0=_;decide,by show 0<(z1k [(mnm,0)] 1 cnm).length;decide,by show(z1k [(mnm,0)] 1 cnm)[0].2=1;decide⟩,by show(z1k [(mnm,0)] 1 cnm).length<=20;decide,by show ∀ e∈(z1k [(mnm,0)] 1 cnm),e.2<1+1;decide,trivial⟩
theorem okC1{w:AVal}{a:List Nat}(h:a.length<=1000000) :OkF [(mnm,0),(s10,1)] 2 [mnm,s10] [(cnm,w,a)]:=⟨nm_c,h,by show cnm∉[mnm,s10];decide,by show ratF cnm [(mnm,0),(s10,1)] 0=_;decide,⟨0,by show ratF cnm (z1k [(mnm,0),(s10,1)] 2 cnm) 0=_;decide,by show 0<(z1k [(mnm,0),(s10,1)] 2 cnm).length;decide,by show(z1k [(mnm,0),(s10,1)] 2 cnm)[0].2=2;decide⟩,by show(z1k [(mnm,0),(s10,1)] 2 cnm).length<=20;decide,by show ∀ e∈(z1k [(mnm,0),(s10,1)] 2 cnm),e.2<2+1;decide,trivial⟩
theorem esM:z1k [] 0 mnm=[(mnm,0)]:=by decide
theorem esMS:z1k (z1k [] 0 mnm) 1 s10=[(mnm,0),(s10,1)]:=by decide
theorem esC0:z1k [(mnm,0)] 1 cnm=[(cnm,1),(mnm,0)]:=by decide
theorem esC1:z1k [(mnm,0),(s10,1)] 2 cnm=[(cnm,2),(mnm,0),(s10,1)]:=by decide
section
variable{E:Env}(C:CkS E)
include C
theorem q9s{N M n:Nat}{H:AHeap}{pr FP FD:Pos}{SP SD:Pos->Prop}{v:AVal}(P:Pr H pr FP FD [] 0 0 0 [] [[]] 0 0 SP SD)(hF:z2c M H v (z3k n))(hM:∀ p,SP p\/SD p->p.toNat<M)(hN:N<=H.nx.toNat)(hn:n<=2000) :∃ r H' SP' SD',z0f E 6 [.ptr pr 0,v] H r H'/\Pr H' pr FP FD ((z3k n).map g3) (z3k n).length 0 (3*(z3k n).length+1) ((z3k n).map g2) [esG n] 0 (3*(z3k n).length+1) SP' SD'/\z9u N SP SD H SP' SD' H':=by
 obtain⟨l,hl,X⟩:=hF.fx (Q:=fun p=>SP p\/SD p) hM
 have ml:=z1q n (crcS n) hn
 have sl:=z2w n
 by_cases h0:n=0
 .subst h0
  rw[gf0]at hl
  obtain⟨w,l1,rfl,hl1⟩:=fv1 hl
  obtain rfl:=fv0 hl1
  obtain⟨r,H',SP',SD',c,P',st⟩:=j30 C (N:=N) P hN (y1j (by omega)) (by simp) (by omega) (by omega) (by simp) X (by simp) (okM ml)
  have e:esF [] 0 [(mnm,w,z1z 0 (crcS 0))]=esG 0:=esM
  rw[<-e]
  exact⟨r,H',SP',SD',c,P',st⟩
 .rw[gf1 h0]at hl ⊢
  obtain⟨w,l1,rfl,hl1⟩:=fv1 hl
  obtain⟨w2,l2,rfl,hl2⟩:=fv1 hl1
  obtain rfl:=fv0 hl2
  obtain⟨r,H',SP',SD',c,P',st⟩:=j30 C (N:=N) P hN (y1j (by omega)) (by simp) (by omega) (by omega) (by simp) X (by simp) (okMS ml (show(j4o n).length<=1000000 by omega))
  have e:esF [] 0 [(mnm,w,z1z n (crcS n)),(s10,w2,j4o n)]=esG n:=by unfold esG;rw[if_neg h0];exact esMS
  rw[<-e]
  exact⟨r,H',SP',SD',c,P',st⟩
theorem q1c{N M:Nat}{H:AHeap}{pr FP FD:Pos}{SP SD:Pos->Prop}{v:AVal}{us:List Nat}{a:List Nat}(ha:a.length<=1000000)(P:Pr H pr FP FD [(mnm,a,a.length)] 1 0 4 [(a,a.length)] [[(mnm,0)]] 0 4 SP SD)(hF:z2c M H v [(cnm,us)])(hM:∀ p,SP p\/SD p->p.toNat<M)(hN:N<=H.nx.toNat)(hu:us.length<=1000000) :∃ r H' SP' SD',z0f E 6 [.ptr pr 0,v] H r H'/\Pr H' pr FP FD [(mnm,a,a.length),(cnm,us,us.length)] 2 0 8 [(a,a.length),(us,us.length)] [[(cnm,1),(mnm,0)]] 0 8 SP' SD'/\z9u N SP SD H SP' SD' H':=by
 obtain⟨l,hl,X⟩:=hF.fx (Q:=fun p=>SP p\/SD p) hM
 obtain⟨w,l1,rfl,hl1⟩:=fv1 hl
 obtain rfl:=fv0 hl1
 have rb:RB [(a,a.length)] [[(mnm,0)]] 0 4:=⟨by simp,by simp,by simp,by first | (simp;done) | (simp;intro a b h;omega),by simp;omega,by omega,by omega⟩
 obtain⟨r,H',SP',SD',c,P',st⟩:=j30 C (N:=N) P hN rb (by simp) (by omega) (by omega) (by simp;omega) X (by simp) (okC0 hu)
 have e:esF [(mnm,0)] 1 [(cnm,w,us)]=[(cnm,1),(mnm,0)]:=esC0
 rw[<-e]
 exact⟨r,H',SP',SD',c,P',st⟩
theorem q1a{N M:Nat}{H:AHeap}{pr FP FD:Pos}{SP SD:Pos->Prop}{v:AVal}{a:List Nat}(ha:a.length<=1000000)(P:Pr H pr FP FD [(mnm,a,a.length)] 1 0 4 [(a,a.length)] [[(mnm,0)]] 0 4 SP SD)(hF:z2c M H v [])(hM:∀ p,SP p\/SD p->p.toNat<M)(hN:N<=H.nx.toNat) :∃ r H' SP' SD',z0f E 6 [.ptr pr 0,v] H r H'/\Pr H' pr FP FD [(mnm,a,a.length)] 1 0 5 [(a,a.length)] [[(mnm,0)]] 0 5 SP' SD'/\z9u N SP SD H SP' SD' H':=by
 obtain⟨l,hl,X⟩:=hF.fx (Q:=fun p=>SP p\/SD p) hM
 obtain rfl:=fv0 hl
 have rb:RB [(a,a.length)] [[(mnm,0)]] 0 4:=⟨by simp,by simp,by simp,by first | (simp;done) | (simp;intro a b h;omega),by simp;omega,by omega,by omega⟩
 obtain⟨r,H',SP',SD',c,P',st⟩:=j30 C (N:=N) P hN rb (by simp) (by omega) (by omega) (by simp;omega) X (by simp) trivial
 exact⟨r,H',SP',SD',c,P',st⟩
theorem q1b{N M:Nat}{H:AHeap}{pr FP FD:Pos}{SP SD:Pos->Prop}{v:AVal}{us:List Nat}{a b:List Nat}(ha:a.length<=1000000)(hb:b.length<=1000000)(P:Pr H pr FP FD [(mnm,a,a.length),(s10,b,b.length)] 2 0 7 [(a,a.length),(b,b.length)] [[(mnm,0),(s10,1)]] 0 7 SP SD)(hF:z2c M H v [(cnm,us)])(hM:∀ p,SP p\/SD p->p.toNat<M)(hN:N<=H.nx.toNat)(hu:us.length<=1000000) :∃ r H' SP' SD',z0f E 6 [.ptr pr 0,v] H r H'/\Pr H' pr FP FD [(mnm,a,a.length),(s10,b,b.length),(cnm,us,us.length)] 3 0 11 [(a,a.length),(b,b.length),(us,us.length)] [[(cnm,2),(mnm,0),(s10,1)]] 0 11 SP' SD'/\z9u N SP SD H SP' SD' H':=by
 obtain⟨l,hl,X⟩:=hF.fx (Q:=fun p=>SP p\/SD p) hM
 obtain⟨w,l1,rfl,hl1⟩:=fv1 hl
 obtain rfl:=fv0 hl1
 have rb:RB [(a,a.length),(b,b.length)] [[(mnm,0),(s10,1)]] 0 7:=⟨by simp,by simp,by simp,by first | (simp;done) | (simp;intro a b h;omega),by simp;omega,by omega,by omega⟩
 obtain⟨r,H',SP',SD',c,P',st⟩:=j30 C (N:=N) P hN rb (by simp) (by omega) (by omega) (by simp;omega) X (by simp) (okC1 hu)
 have e:esF [(mnm,0),(s10,1)] 2 [(cnm,w,us)]=[(cnm,2),(mnm,0),(s10,1)]:=esC1
 rw[<-e]
 exact⟨r,H',SP',SD',c,P',st⟩
theorem q09{N M:Nat}{H:AHeap}{pr FP FD:Pos}{SP SD:Pos->Prop}{v:AVal}{a b:List Nat}(ha:a.length<=1000000)(hb:b.length<=1000000)(P:Pr H pr FP FD [(mnm,a,a.length),(s10,b,b.length)] 2 0 7 [(a,a.length),(b,b.length)] [[(mnm,0),(s10,1)]] 0 7 SP SD)(hF:z2c M H v [])(hM:∀ p,SP p\/SD p->p.toNat<M)(hN:N<=H.nx.toNat) :∃ r H' SP' SD',z0f E 6 [.ptr pr 0,v] H r H'/\Pr H' pr FP FD [(mnm,a,a.length),(s10,b,b.length)] 2 0 8 [(a,a.length),(b,b.length)] [[(mnm,0),(s10,1)]] 0 8 SP' SD'/\z9u N SP SD H SP' SD' H':=by
 obtain⟨l,hl,X⟩:=hF.fx (Q:=fun p=>SP p\/SD p) hM
 obtain rfl:=fv0 hl
 have rb:RB [(a,a.length),(b,b.length)] [[(mnm,0),(s10,1)]] 0 7:=⟨by simp,by simp,by simp,by first | (simp;done) | (simp;intro a b h;omega),by simp;omega,by omega,by omega⟩
 obtain⟨r,H',SP',SD',c,P',st⟩:=j30 C (N:=N) P hN rb (by simp) (by omega) (by omega) (by simp;omega) X (by simp) trivial
 exact⟨r,H',SP',SD',c,P',st⟩
end
theorem y3c{n:Nat}{o:Option (List Nat)}(h:match o with | none=>True | some us=>us.length<=1000000) :(cC n o).1.length<=1000000:=by
 cases o with
 | none=>simp[cC]
 | some us =>
  cases hr:rows us with
  | none=>rw[y96 hr];simp
  | some q =>
   obtain⟨hd,ds⟩:=q
   have:=j82 hr h
   by_cases hg:dG n hd ds
   .rw[y95 hr hg];show(dX ds).length<=_;omega
   .rw[q78 hr hg];simp
section
variable{E:Env}(C:CkS E)
include C
theorem q6v{M n:Nat}{B H:AHeap}{pr FP FD:Pos}{SP SD:Pos->Prop}{v:AVal}{fs':List (List Nat×List Nat)}(P:Pr H pr FP FD ((z3k n).map g3) (z3k n).length 0 (3*(z3k n).length+1) ((z3k n).map g2) [esG n] 0 (3*(z3k n).length+1) SP SD)(hF:z2c M H v fs')(hfs:fs'=[]\/∃ us,fs'=[(cnm,us)]/\us.length<=10001)(hM:∀ p,SP p\/SD p->p.toNat<M)(hT:Tab B)(kB:Keep B.nx.toNat B H)(hS:∀ p,SP p\/SD p->B.nx.toNat<=p.toNat)(hn:n<=2000) :∃ r H' o,z0f E 6 [.ptr pr 0,v] H r H'/\QS H' pr n (crcS n) o FP FD/\(∀ G,Keep H'.nx.toNat H' G->∃ G',z0f E 12 [.ptr pr 0] G (.bool true) G'/\Keep G.nx.toNat G G')/\(cC n o).1.length<=1000000/\Keep B.nx.toNat B H':=by
 have ml:=z1q n (crcS n) hn
 have nB:=kB.nx
 by_cases h0:n=0
 .have eG:esG n=[(mnm,0)]:=by unfold esG;rw[if_pos h0]
  have eg:z3k n=[(mnm,z1z n (crcS n))]:=by subst h0;exact gf0
  rw[eG,eg]at P
  rcases hfs with rfl | ⟨us,rfl,hu⟩
  .skip
   obtain⟨r,H',SP',SD',c,P',st⟩:=q1a C (N:=B.nx.toNat) ml P hF hM nB
   have kB':Keep B.nx.toNat B H':=kB.trans (st.keep hS lr)
   have hT':=hT.keep kB' lr
   refine⟨r,H',none,c,qsA C P' (by omega) hn hT' ,fun G kG=>?_,y3c (o:=none) trivial,kB'⟩
   exact k2k C (P'.keep kG lr) (by omega) (z1q n (crcS n) hn)
  .skip
   obtain⟨r,H',SP',SD',c,P',st⟩:=q1c C (N:=B.nx.toNat) ml P hF hM nB (show us.length<=1000000 by omega)
   have kB':Keep B.nx.toNat B H':=kB.trans (st.keep hS lr)
   have hT':=hT.keep kB' lr
   refine⟨r,H',some us,c,qsC C P' (by omega) hn hT' (by omega),fun G kG=>?_,y3c (o:=some us) (show us.length<=1000000 by omega),kB'⟩
   exact k2i C (P'.keep kG lr) (by omega) (z1q n (crcS n) hn) (by omega)
 .have eG:esG n=[(mnm,0),(s10,1)]:=by unfold esG;rw[if_neg h0]
  rw[eG,gf1 h0]at P
  have sl:(j4o n).length<=1000000:=by rw[z2w];omega
  rcases hfs with rfl | ⟨us,rfl,hu⟩
  .skip
   obtain⟨r,H',SP',SD',c,P',st⟩:=q09 C (N:=B.nx.toNat) ml sl P hF hM nB
   have kB':Keep B.nx.toNat B H':=kB.trans (st.keep hS lr)
   have hT':=hT.keep kB' lr
   refine⟨r,H',none,c,qsB C P' (by omega) hn hT' (by rw[z2w];omega),fun G kG=>?_,y3c (o:=none) trivial,kB'⟩
   exact k2j C (P'.keep kG lr) (by omega) (z1q n (crcS n) hn) (by rw[z2w];omega)
  .skip
   obtain⟨r,H',SP',SD',c,P',st⟩:=q1b C (N:=B.nx.toNat) ml sl P hF hM nB (show us.length<=1000000 by omega)
   have kB':Keep B.nx.toNat B H':=kB.trans (st.keep hS lr)
   have hT':=hT.keep kB' lr
   refine⟨r,H',some us,c,qsD C P' (by omega) hn hT' (by rw[z2w];omega) (by omega),fun G kG=>?_,y3c (o:=some us) (show us.length<=1000000 by omega),kB'⟩
   exact k2h C (P'.keep kG lr) (by omega) (z1q n (crcS n) hn) (by rw[z2w];omega) (by omega)
theorem k2z{H:AHeap}{vc vv:AVal}{zs ws:List Int}{n kd at':Int}{x:Nat}(hc:Rd 1 H vc zs.length (zcs zs))(hv:Rd 1 H vv ws.length (zcs ws))(hx:x<256)(hT:Tab H)(hf:z0f E 4 [] H (.bool true) H) :∃ H',z0f E 3 [vc,.int .i64 n,.int .i64 kd,.int .i64 at',.int .u8 (.ofNat x),vv] H (.bool true) H':=by
 have lc:∀ H2,fLen H2 1 vc=some (.int .i64 (.ofNat zs.length)):=fun _=>hc.len
 have lvv:∀ H2,fLen H2 1 vv=some (.int .i64 (.ofNat ws.length)):=fun _=>hv.len
 have sc:=And.intro (And.intro hc.scal hc.same) (And.intro hv.scal hv.same)
 by_cases a1:2000<zs.length
 .refine⟨H,?_⟩
  refine C.c3.re (by conv=>lhs;reduce) ?_
  simp(maxDischargeDepth:=9)only[auX,bq,z0c hf,lc,eq_true a1]
 by_cases a2:2000<ws.length
 .refine⟨H,?_⟩
  refine C.c3.re (by conv=>lhs;reduce) ?_
  simp(maxDischargeDepth:=9)only[auX,bq,z0c hf,lc,lvv,eq_false a1,eq_true a2]
 cases n with
 | negSucc m =>
  refine⟨H,?_⟩
  refine C.c3.re (by conv=>lhs;reduce) ?_
  simp(maxDischargeDepth:=9)only[auX,bq,z0c hf,lc,lvv,eq_false a1,eq_false a2,j3q]
 | ofNat n =>
 by_cases a3:2000<n
 .refine⟨H,?_⟩
  refine C.c3.re (by conv=>lhs;reduce) ?_
  simp(maxDischargeDepth:=9)only[auX,bq,z0c hf,lc,lvv,eq_false a1,eq_false a2,eq_false (Nat.not_lt_zero n),eq_true a3]
 have hn:n<=2000:=by omega
 obtain⟨pr,FP,FD,H1,SP,SD,c1,P1,K1,b1,bp⟩:=y7w C (H:=H)
 have n1:=K1.nx
 obtain⟨H2,hH2⟩ :∃ A,A=(H1.new (.cells (repl [.snil] n) false false)).2:=⟨_,rfl⟩
 have K2:Keep H1.nx.toNat H1 H2:=by rw[hH2];exact z0d
 have n2:H1.nx.toNat<H2.nx.toNat:=by rw[hH2];exact z0h
 have rx:Rd 1 H2 (.sl H1.nx 0 n n 0) n (List.replicate n .snil):=by rw[<-y1f,hH2];exact j64 (z2d _ _)
 obtain⟨wc,H3,c3,Gc,K3⟩:=k1s C.toCk (H:=H2) hn
 have n3:=K3.nx
 obtain⟨l4,H4,c4,F4,K4⟩:=q7u C.toCk Gc.1.rd (rx.keep K3 lr) hn
 have n4:=K4.nx
 have K14:Keep H1.nx.toNat H1 H4:=(K2.trans (K3.mono (by omega))).trans (K4.mono (by omega))
 have P4:=P1.keep K14 lr
 obtain⟨r5,H5,SP5,SD5,c5,P5,st5⟩:=q9s C (N:=H.nx.toNat) P4 F4 (fun p hp=>by have:=P1.lt p hp;omega) (by omega) hn
 have KK5:Keep H.nx.toNat H H5:=(K1.trans (K14.mono n1)).trans (st5.keep b1 lr)
 have S5:∀ p,SP5 p\/SD5 p->H.nx.toNat<=p.toNat:=fun p hp=>by
  rcases st5.sub p hp with h | h
  .exact b1 p h
  .exact h
 have n5:=st5.nx
 obtain⟨w6,H6,c6,F6,K6⟩:=q2x C.toCk (hc.keep KK5 lr) (by omega)
 have n6:=K6.nx
 obtain⟨H7,hH7⟩ :∃ A,A=(H6.new (.cells [.int .i64 kd,.int .i64 (.ofNat 0),.int .i64 at',.int .u8 (.ofNat x)] false false)).2:=⟨_,rfl⟩
 have K7:Keep H6.nx.toNat H6 H7:=by rw[hH7];exact z0d
 have n7:=K7.nx
 have re:Rd 4 H7 (.sl H6.nx 0 1 1 0) 1 [.int .i64 kd,.int .i64 (.ofNat 0),.int .i64 at',.int .u8 (.ofNat x)]:=by rw[hH7];exact q9j rfl
 have F7:=F6.keep K7 lr
 obtain⟨w8,H8,fs',c8,F8,hfs,K8⟩:=q2r C.toCk F7 (by
  unfold y3a
  split
  .rename_i hg
   have:=(q44 hg).2.1
   exact .inr ⟨_,rfl,j8j _ (by omega)⟩
  .exact .inl rfl) hx re
 have n8:=K8.nx
 have K58:Keep H5.nx.toNat H5 H8:=(K6.trans (K7.mono n6)).trans (K8.mono (by omega))
 have P8:=P5.keep K58 lr
 obtain⟨r9,H9,o,c9,Q,hsame,hcl,KK9⟩:=q6v C P8 F8 hfs (fun p hp=>by have:=P5.lt p hp;omega) hT (KK5.trans (K58.mono KK5.nx)) S5 hn
 have wf:z1g w6=true/\same w6 w6=true:=by
  obtain⟨l,_,hr,_⟩:=F6
  exact⟨hr.scal,hr.same⟩
 have lf:z1g l4=true/\same l4 l4=true:=by
  obtain⟨l,_,hr,_⟩:=F4
  exact⟨hr.scal,hr.same⟩
 have wf8:z1g w8=true/\same w8 w8=true:=by
  obtain⟨l,_,hr,_⟩:=F8
  exact⟨hr.scal,hr.same⟩
 have sx:=And.intro Gc.1.rd.scal Gc.1.rd.same
 suffices hh:∃ r H',z0f E 3 [vc,.int .i64 (.ofNat n),.int .i64 kd,.int .i64 at',.int .u8 (.ofNat x),vv] H r H'/\(r=.bool true)from by
  obtain⟨_,H',hc,rfl⟩:=hh
  exact⟨H',hc⟩
 rw[hH2]at c3
 rw[hH7]at c8
 refine C.c3.rr (by conv=>lhs;reduce) ?_
 simp(maxDischargeDepth:=9)only[auX,bq,reduceCtorEq,Nat.reduceAdd,zA,Nat.reduceAnd,z0c hf,lc,lvv,eq_false a1,eq_false a2,eq_false (Nat.not_lt_zero n),eq_false a3,z0c c1,ep_p,k1o (bytes:=24) (n:=n) (c:=n) ⟨lr,by omega,by omega⟩,z0j c3,z0j c4,z0j c5,z0c c6,z0c c8,z0c c9]
 refine W.loopI (fun k t G=>∃ i,i+k=ws.length/\Keep H9.nx.toNat H9 G/\PT.get (.o (.i .h)) t=some (vv)/\PT.get (.i (.i (.i .h))) t=some (.ptr pr 0)/\PT.get (.o (.o (.o (.o .h)))) t=some (.int .i64 (.ofNat i))) ?_ ws.length _ _ ⟨0,by omega,Keep.refl _ _,rfl,rfl,rfl⟩
 rintro k t G ⟨i,hi,kG,t5,t14,t15⟩
 have qG:=Q.keep kG lr
 by_cases hk:k=0
 .obtain rfl:i=ws.length:=by omega
  obtain⟨G1,d1,e1⟩:=q53 C qG hn (j5y n) hcl
  obtain⟨G2,d2,e2⟩:=hsame G1 (kG.trans (e1.mono kG.nx))
  simp(maxDischargeDepth:=9)only[auX,bq,↓reduceIte,t5,t14,t15,lvv,eq_false (Nat.lt_irrefl ws.length),z0c d1,z0c d2]
 .have hi2:i<ws.length:=by omega
  obtain⟨b,o',i1,i2⟩:=Rd.at1 (hv.keep (KK9.trans (kG.mono KK9.nx)) lr) (i:=i) (x:=.int .i64 ws[i]) (by simp[hi2])
  obtain⟨G1,d1,e1⟩:=q52 C qG hn (j5y n) ws[i]
  simp(maxDischargeDepth:=9)only[auX,t5,t14,t15,lvv,hi2,i1,i2,z0c d1,z0o (i:=i) (k:=1) (by omega)]
  exact⟨k-1,by omega,i+1,by omega,kG.trans (e1.mono kG.nx),rfl⟩
end
end Go.Am
