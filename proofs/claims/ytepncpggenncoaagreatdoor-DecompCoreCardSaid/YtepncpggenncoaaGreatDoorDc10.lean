import Derived.Test.YtepncpggenncoaaGreatDoorDc9
set_option linter.all false
set_option maxRecDepth 20000
set_option maxHeartbeats 8000000
namespace Go.Am
open Go Go.Proofs
abbrev s10:List Nat:=[115,46,49,46,48]
abbrev shd(n:Nat) :List Nat:=[115]++b4 0++b4 n++b4 n
abbrev WB(q:Pos)(n:Nat)(dn:Bool) :List AVal:=[.ptr q 0,.int .i64 (.ofNat 0),.int .i64 (.ofNat n),.int .i64 (.ofNat n),.int .i64 (.negSucc 0),.snil,.int .i64 (.ofNat 0),.bool dn]
theorem y5w:z0l .sub (.int .i64 (.ofNat 0)) (.int .i64 (.ofNat 1))=some (.int .i64 (.negSucc 0)):=rfl
theorem j1v:IsNm s10:=⟨by decide,by decide,fun c hc=>by simp at hc;rcases hc with rfl | rfl | rfl | rfl | rfl<;>(unfold okc;decide)⟩
theorem q0k:z1k [] 0 s10=[(s10,0)]:=by decide
theorem y6r:ratF s10 [(s10,0)] 0=.ofNat 0:=by decide
section
variable{E:Env}(C:Ck E)
include C
theorem y99{H:AHeap}{F:Pos}{S:Pos->Prop}(h:RS H F [] [[]] 0 0 S){n:Nat}(h1:0<n)(h2:n<=16777216) :
  ∃ b q H' S',z0f E 35 [.ptr F 0,.str s10,.int .i64 (.ofNat 0),.int .i64 (.ofNat n),.int .i64 (.ofNat n)] H (.tup [.ptr b 0,.int .i64 (.ofNat 0)]) H'/\RS H' F [(fenc 1 (shd n),0)] ([[]]++[[(s10,0)]]) 1 2 S'/\PT.get q H'.t=some (.cells (WC F s10 25 (z2j 0 (shd n)) 0 false) false false)/\PT.get b H'.t=some (.cells (WB q n false) false false)/\¬ S' q/\¬ S' b/\b≠q/\H.nx.toNat<=q.toNat/\H.nx.toNat<=b.toNat/\q.toNat<H'.nx.toNat/\b.toNat<H'.nx.toNat/\Step H.nx.toNat S H S' H':=by
 have c1:=y6s C (H:=H) h1 (Nat.le_refl n) h2
 obtain⟨w,H1,c2,B,K1⟩:=q2a C (H:=H) (a:=0) (b:=n) (n:=n) (by omega) (by omega) (by omega)
 have n1:=K1.nx
 have hS:=fun z hz=>h.lt z hz
 obtain⟨H2,S2,q,c3,R2,g2,q1,q2,q3,st⟩:=y3e C (N:=H1.nx.toNat) (dirs:=[]) (files:=[]) (es:=[]) (h.keep K1 lr) lr ⟨by simp,by simp,by simp,by simp,by simp,by omega,by omega⟩ (by omega) j1v rfl q0k ⟨by simp,by simp,by simp,by simp,by simp,by omega,by omega⟩ y6r ⟨by simp,by simp⟩ B.by (fun z hz e=>by have:=B.1.2 z hz;have:=hS z e;omega) (by simp[z0k])
 have n2:=st.nx
 have S2lt:=fun z hz=>R2.lt z hz
 have kB:Keep H2.nx.toNat H2 (H2.new (.cells (WB q n false) false false)).2:=z0d
 have nB:H2.nx.toNat<(H2.new (.cells (WB q n false) false false)).2.nx.toNat:=z0h
 refine⟨H2.nx,q,(H2.new (.cells (WB q n false) false false)).2,S2,?_,R2.keep kB lr,?_,z0i,q1,fun e=>by have:=S2lt _ e;omega,fun e=>by rw[<-e]at q3;omega,by omega,by omega,by omega,nB,?_⟩
 .refine C.c35.re (by conv=>lhs;reduce) ?_
  simp(maxDischargeDepth:=9)only[auX,z0c c1,z0c c2,z0c c3,y5w]
 .rw[kB.get _ q3];exact g2
 .exact⟨by omega,fun z hz hs=>by rw[kB.get z (by omega),st.get z (by omega) hs,K1.get z hz],fun z hz=>(st.sub z hz).imp id (fun e=>by omega),fun z hz=>by have:=S2lt z hz;omega⟩
theorem q7y{N:Nat}{H:AHeap}{F:Pos}{S:Pos->Prop}{n crc:Nat}(h:RS H F [(fenc 1 (shd n),0)] ([[]]++[[(s10,0)]]) 1 2 S)(hN:N<=H.nx.toNat){b q:Pos}(g2:PT.get q H.t=some (.cells (WC F s10 25 crc 0 false) false false))(g3:PT.get b H.t=some (.cells (WB q n false) false false))(q1:¬ S q)(b1:¬ S b)(hbq:b≠q)(q2:q.toNat<H.nx.toNat)(b2:b.toNat<H.nx.toNat)(hNq:N<=q.toNat)(hNb:N<=b.toNat)(hcr:crc<4294967296) :
  ∃ H' S',z0f E 38 [.ptr b 0,.bool true] H (.tup [.agg [.int .i64 (.ofNat 41),.int .u32 (.ofNat crc),.int .i64 (.ofNat 0)],.int .i64 (.ofNat 0)]) H'/\RS H' F [(z3m (shd n) [],41)] ([[]]++[[(s10,0)]]) 1 4 S'/\Step N S H S' H':=by
 have lf:(fenc 1 (shd n)).length=25:=by rw[z06];simp[z0k]
 have kA:Keep H.nx.toNat H (H.new (.cells [.int .i64 (.ofNat 0),.int .u32 (.ofNat 0),.int .i64 (.ofNat 0)] false false)).2:=z0d
 have gA:PT.get H.nx (H.new (.cells [.int .i64 (.ofNat 0),.int .u32 (.ofNat 0),.int .i64 (.ofNat 0)] false false)).2.t=some (.cells [.int .i64 (.ofNat 0),.int .u32 (.ofNat 0),.int .i64 (.ofNat 0)] false false):=z0i
 have nA:H.nx.toNat<(H.new (.cells [.int .i64 (.ofNat 0),.int .u32 (.ofNat 0),.int .i64 (.ofNat 0)] false false)).2.nx.toNat:=z0h
 have ga:=(kA.get b b2).trans g3
 have gq:=(kA.get q q2).trans g2
 have hRA:=h.keep kA lr
 generalize hX:(H.new (.cells [.int .i64 (.ofNat 0),.int .u32 (.ofNat 0),.int .i64 (.ofNat 0)] false false)).2=X at *
 have hS:=fun z hz=>h.lt z hz
 have t7:=z0z ga (o:=7) (vs:=[.bool true]) rfl rfl
 obtain⟨Y,hY⟩ :∃ Y,Y=X.upd b (.cells (WB q n true) false false):=⟨_,rfl⟩
 have t7:z05 X b 7 [.bool true]=some Y:=by rw[hY];exact t7
 have nY:Y.nx=X.nx:=by rw[hY];rfl
 have yb:PT.get b Y.t=some (.cells (WB q n true) false false):=by rw[hY];exact z0q
 have yq:PT.get q Y.t=some (.cells (WC F s10 25 crc 0 false) false false):=by rw[hY,z0a hbq];exact gq
 have yA:PT.get H.nx Y.t=some (.cells [.int .i64 (.ofNat 0),.int .u32 (.ofNat 0),.int .i64 (.ofNat 0)] false false):=by rw[hY,z0a (fun e=>by rw[e]at b2;omega)];exact gA
 have RY:=hRA.frame (H':=Y) (fun z hz=>by rw[hY];exact z0a (fun e=>b1 (e▸hz))) (by rw[nY];exact lr)
 obtain⟨H2,S2,c2,R2,st⟩:=q5v C (N:=Y.nx.toNat) (dirs:=[[]]) RY lr ⟨by simp,by simp,by simp,by simp,fun f hf=>by obtain rfl:=List.mem_singleton.1 hf;rw[lf];omega,by omega,by omega⟩ (by omega) j1v y6r (x:=0) ⟨by simp,by simp⟩ (by simp) yq q1 (by rw[nY];omega) hcr (by omega) (by omega) (by show(fenc 1 (shd n)).length+16<=_;omega)
 have e0:fenc 1 (shd n)++fenc 3 (b4 0)=z3m (shd n) []:=by unfold z3m;simp
 simp only[List.getElem_cons_zero,List.set_cons_zero,e0,lf,Nat.reduceAdd]at R2
 have n2:=st.nx
 have z2b:=(st.get b (by rw[nY];omega) (fun e=>e.elim b1 hbq)).trans yb
 have z2A:=(st.get H.nx (by rw[nY];omega) (fun e=>e.elim (fun e=>by have:=hS _ e;omega) (fun e=>by rw[<-e]at q2;omega))).trans yA
 have t3:=z0z z2A (o:=0) (vs:=[.int .i64 (.ofNat 41),.int .u32 (.ofNat crc),.int .i64 (.ofNat 0)]) rfl rfl
 have hA2:¬ S2 H.nx:=fun e=>by
  rcases st.sub _ (.inl e)with h1 | h1
  .rcases h1 with h1 | h1
   .have:=hS _ h1;omega
   .rw[<-h1]at q2;omega
  .rw[nY]at h1;omega
 have fA:PT.get H.nx (H2.upd H.nx (.cells [.int .i64 (.ofNat 41),.int .u32 (.ofNat crc),.int .i64 (.ofNat 0)] false false)).t=some (.cells [.int .i64 (.ofNat 41),.int .u32 (.ofNat crc),.int .i64 (.ofNat 0)] false false):=z0q
 refine⟨H2.upd H.nx (.cells [.int .i64 (.ofNat 41),.int .u32 (.ofNat crc),.int .i64 (.ofNat 0)] false false),S2,?_,R2.frame (fun z hz=>z0a (fun e=>hA2 (e▸hz))) lr,?_⟩
 .subst hX
  refine C.c38.re (by conv=>lhs;reduce) ?_
  simp(maxDischargeDepth:=9)only[auX,Nat.reduceLT,Nat.reduceAdd,zA,aZ,hl_g ga,t7,hl_g yb,z0c c2,hl_g z2b,t3,hn_g fA]
 .rw[nY]at n2
  refine⟨by show _<=H2.nx.toNat;omega,fun z hz hs=>?_,fun z hz=>?_,fun z hz=>st.top z (.inl hz)⟩
  .rw[z0a (fun e=>by rw[<-e]at hz;omega),st.get z (by rw[nY];omega) (fun e=>e.elim hs (fun e=>by rw[e]at hz;omega)),hY,z0a (fun e=>by rw[<-e]at hz;omega),kA.get z (by omega)]
  .rcases st.sub z (.inl hz)with(h1 | h1) | h1
   .exact .inl h1
   .exact .inr (by rw[h1];exact hNq)
   .exact .inr (by rw[nY]at h1;omega)
end
def cutL(n:Nat) :List AVal:=if n=0 then[]else[.int .i64 (.ofNat n)]
theorem q0d{by':Nat}{z x:AVal}{H:AHeap}(hx:z1g x=true) :∃ H',z09 ((H.new (.cells [z] false false)).2.new (.cells [x] false false)).2 1 by' (.sl H.nx 0 0 1 0) (.sl H.nx.succ 0 1 1 0)=some (.sl H.nx 0 1 1 0,H')/\PT.get H.nx H'.t=some (.cells [x] false false)/\Keep H.nx.toNat H H'/\H.nx.toNat<H'.nx.toNat:=by
 have k1:Keep H.nx.toNat H (H.new (.cells [z] false false)).2:=z0d
 have k2:Keep (H.new (.cells [z] false false)).2.nx.toNat (H.new (.cells [z] false false)).2 ((H.new (.cells [z] false false)).2.new (.cells [x] false false)).2:=z0d
 have l1:H.nx.toNat<(H.new (.cells [z] false false)).2.nx.toNat:=z0h
 have l2:(H.new (.cells [z] false false)).2.nx.toNat<((H.new (.cells [z] false false)).2.new (.cells [x] false false)).2.nx.toNat:=z0h
 have g1:PT.get H.nx ((H.new (.cells [z] false false)).2.new (.cells [x] false false)).2.t=some (.cells [z] false false):=(k2.get _ l1).trans z0i
 have g2:PT.get H.nx.succ ((H.new (.cells [z] false false)).2.new (.cells [x] false false)).2.t=some (.cells [x] false false):=z0i (H:=(H.new (.cells [z] false false)).2)
 refine⟨((H.new (.cells [z] false false)).2.new (.cells [x] false false)).2.upd H.nx (.cells [x] false false),?_,z0q,(k1.trans (k2.mono (Nat.le_of_lt l1))).trans (z0s lr),by show _<((H.new (.cells [z] false false)).2.new (.cells [x] false false)).2.nx.toNat;omega⟩
 have hs:z1l [x]=true:=by rw[z0p hx];rfl
 have hsrc:z1e ((H.new (.cells [z] false false)).2.new (.cells [x] false false)).2 1 (.sl H.nx.succ 0 1 1 0)=some (1,[x]):=by
  show(match z0t _ _ 0 (Nat.mul 1 1)with | some c=>some (1,c) | none=>none)=_
  rw[z2x g2];rfl
 unfold z09
 simp only[hsrc]
 rw[j7z,g1]
 have e:lput [z] (Nat.add 0 (Nat.mul 0 1)) [x]=some [x]:=rfl
 simp only[stU,hs,e,nadd,zA]
section
variable{E:Env}(C:Ck E)
include C
theorem q7d{H:AHeap}{v:AVal}{n:Nat}(h:Rd 1 H v (cutL n).length (cutL n)) :∃ w H',z0f E 82 [v] H w H'/\GO 1 H.nx.toNat H' w (cutL n).length (cutL n)/\Keep H.nx.toNat H H':=by
 by_cases h0:n=0
 .have e:cutL n=[]:=by simp[cutL,h0]
  rw[e]at h ⊢
  have k1:Keep H.nx.toNat H (H.new (.cells [] false false)).2:=z0d
  refine C.c82.rr (by conv=>lhs;reduce) ?_
  simp(maxDischargeDepth:=9)only[auX,h.len,List.length_nil,j2w (bytes:=8) (n:=0) (c:=0) (by omega)]
  refine W.loopI (fun k t H2=>H2=(H.new (.cells [] false false)).2/\PT.get .h t=some (v)/\PT.get (.o (.o .h)) t=some (.sl H.nx 0 0 0 0)/\PT.get (.i (.o .h)) t=some (.int .i64 (.ofNat 0))) ?_ 0 _ _ ⟨rfl,rfl,rfl,rfl⟩
  rintro k t H2 ⟨rfl,t0,t3,t4⟩
  simp(maxDischargeDepth:=9)only[auX,↓reduceIte,Nat.reduceLT,t0,t3,t4,h.len,List.length_nil]
  exact⟨⟨⟨rfl,.inr ⟨H.nx,0,false,rfl,z0i,.inl rfl,z0h⟩⟩,fun p hp=>by cases hp;exact lr⟩,k1⟩
 .have e:cutL n=[.int .i64 (.ofNat n)]:=by simp[cutL,h0]
  rw[e]at h ⊢
  have k1:Keep H.nx.toNat H (H.new (.cells [.int .i64 (.ofNat 0)] false false)).2:=z0d
  obtain⟨b,o,i1,i2⟩:=Rd.at1 (h.keep k1 lr) (i:=0) rfl
  obtain⟨H3,a3,g3,K3,n3⟩:=q0d (H:=H) (z:=.int .i64 (.ofNat 0)) (x:=.int .i64 (.ofNat n)) (by':=8) rfl
  have er:repl [.int .i64 (.ofNat 0)] 1=[AVal.int .i64 (.ofNat 0)]:=rfl
  have h3:=h.keep K3 lr
  refine C.c82.rr (by conv=>lhs;reduce) ?_
  simp(maxDischargeDepth:=9)only[auX,zA,h.len,List.length_cons,List.length_nil,j2w (bytes:=8) (n:=0) (c:=1) (by omega),er]
  refine W.loopI (fun k t H2=>((k=1/\H2=(H.new (.cells [.int .i64 (.ofNat 0)] false false)).2/\PT.get (.o (.o .h)) t=some (.sl H.nx 0 0 1 0)/\PT.get (.i (.o .h)) t=some (.int .i64 (.ofNat 0)))\/(k=0/\H2=H3/\PT.get (.o (.o .h)) t=some (.sl H.nx 0 1 1 0)/\PT.get (.i (.o .h)) t=some (.int .i64 (.ofNat 1))))/\PT.get .h t=some (v)) ?_ 1 _ _ ⟨.inl ⟨rfl,rfl,rfl,rfl⟩,rfl⟩
  rintro k t H2 ⟨⟨rfl,rfl,t3,t4⟩ | ⟨rfl,rfl,t3,t4⟩,t0⟩
  .simp(maxDischargeDepth:=9)only[auX,Nat.reduceLT,zA,t0,t3,t4,(h.keep k1 lr).len,List.length_cons,List.length_nil,i1,i2,z0r a3,z0o (i:=0) (k:=1) (by omega)]
   exact⟨0,by omega,by simp⟩
  .simp(maxDischargeDepth:=9)only[auX,↓reduceIte,Nat.reduceLT,zA,t0,t3,t4,h3.len,List.length_cons,List.length_nil]
   exact⟨⟨⟨rfl,.inr ⟨H.nx,0,false,rfl,g3,.inl rfl,n3⟩⟩,fun p hp=>by cases hp;exact lr⟩,K3⟩
theorem y6t{H:AHeap}{v:AVal}{n:Nat}(h0:0<n)(h:Rd 1 H v (cutL n).length (cutL n)) :z0f E 276 [v,.int .i64 (.ofNat 0)] H (.tup [.int .i64 (.ofNat 0),.int .i64 (.ofNat n)]) H:=by
 have hl:(cutL n).length=1:=by simp[cutL,show n≠0 by omega]
 have hc:(cutL n)[0]? = some (.int .i64 (.ofNat n)):=by simp[cutL,show n≠0 by omega]
 rw[hl]at h
 obtain⟨b,o,i1,i2⟩:=Rd.at1 h hc
 refine C.c276.re (by conv=>lhs;reduce) ?_
 simp(maxDischargeDepth:=9)only[auX,bq,Nat.reduceLT,h.len,i1,i2,eq_false (show ¬ 1<=0 by omega)]
theorem y1y{H:AHeap}{m:Nat}(h:m<=2147483647) :z0f E 275 [.int .i64 (.ofNat m)] H (.bool true) H:=by
 refine C.c275.re (by conv=>lhs;reduce) ?_
 simp(maxDischargeDepth:=9)only[auX,bq,eq_true (show 0<=m by omega),eq_true h]
end
theorem y94:∀ (a b:List Nat),z0b (a++b)=z0b a++z0b b
 | [],_=>rfl
 | x::a,b=>by simp only[List.cons_append,z0b,y94 a b]
section
variable{E:Env}(C:Ck E)
include C
theorem y7x{H:AHeap}{v:AVal}{n:Nat}(h:Rd 1 H v (cutL n).length (cutL n))(hn:n<=16777216) :∃ w H',z0f E 34 [.int .i64 (.ofNat n),v] H (.tup [w,.int .i64 (.ofNat 0)]) H'/\GO 1 H.nx.toNat H' w (cutL n).length (cutL n)/\Keep H.nx.toNat H H':=by
 obtain⟨w,H',c1,G,K⟩:=q7d C h
 suffices hh:∃ r H2,z0f E 34 [.int .i64 (.ofNat n),v] H r H2/\(r=.tup [w,.int .i64 (.ofNat 0)]/\H2=H')from by
  obtain⟨_,_,hc,rfl,rfl⟩:=hh
  exact⟨w,_,hc,G,K⟩
 by_cases h0:n=0
 .subst h0
  have e:cutL 0=[]:=rfl
  rw[e]at h
  refine C.c34.rr (by conv=>lhs;reduce) ?_
  simp(maxDischargeDepth:=9)only[auX,bq,Nat.reduceLT,eq_false (show ¬ 16777216<0 by omega)]
  refine W.loopI (fun k t H2=>H2=H/\PT.get .h t=some (.int .i64 (.ofNat 0))/\PT.get (.o .h) t=some (v)/\PT.get (.i (.i .h)) t=some (.int .i64 (.ofNat 0))/\PT.get (.o (.o (.o .h))) t=some (.int .i64 (.ofNat 0))) ?_ 0 _ _ ⟨rfl,rfl,rfl,rfl,rfl⟩
  rintro k t H2 ⟨rfl,t0,t1,t6,t7⟩
  simp(maxDischargeDepth:=9)only[auX,bq,↓reduceIte,Nat.reduceLT,t0,t1,t6,t7,h.len,List.length_nil,z0c c1]
 .have e:cutL n=[.int .i64 (.ofNat n)]:=by simp[cutL,h0]
  rw[e]at h
  obtain⟨b,o,i1,i2⟩:=Rd.at1 h (i:=0) rfl
  refine C.c34.rr (by conv=>lhs;reduce) ?_
  simp(maxDischargeDepth:=9)only[auX,bq,eq_false (show ¬ n<0 by omega),eq_false (show ¬ 16777216<n by omega)]
  refine W.loopI (fun k t H2=>H2=H/\((k=1/\PT.get (.i (.i .h)) t=some (.int .i64 (.ofNat 0))/\PT.get (.o (.o (.o .h))) t=some (.int .i64 (.ofNat 0)))\/(k=0/\PT.get (.i (.i .h)) t=some (.int .i64 (.ofNat n))/\PT.get (.o (.o (.o .h))) t=some (.int .i64 (.ofNat 1))))/\PT.get .h t=some (.int .i64 (.ofNat n))/\PT.get (.o .h) t=some (v)) ?_ 1 _ _ ⟨rfl,.inl ⟨rfl,rfl,rfl⟩,rfl,rfl⟩
  rintro k t H2 ⟨rfl,⟨rfl,t6,t7⟩ | ⟨rfl,t6,t7⟩,t0,t1⟩
  .simp(maxDischargeDepth:=9)only[auX,Nat.reduceLT,zA,t0,t1,t6,t7,h.len,List.length_cons,List.length_nil,i1,i2,eq_false (show ¬ n<=0 by omega),z0o (i:=0) (k:=1) (by omega)]
   exact⟨0,by omega,by simp⟩
  .simp(maxDischargeDepth:=9)only[auX,bq,↓reduceIte,Nat.reduceLT,zA,t0,t1,t6,t7,h.len,List.length_cons,List.length_nil,z0c c1]
theorem k01{H:AHeap} :z0f E 208 [.int .i64 (.ofNat 0)] H (.int .i64 (.ofNat 1)) H:=by
 suffices hh:∃ r H2,z0f E 208 [.int .i64 (.ofNat 0)] H r H2/\(r=.int .i64 (.ofNat 1)/\H2=H)from by
  obtain⟨_,_,hc,rfl,rfl⟩:=hh
  exact hc
 refine C.c208.rr (by conv=>lhs;reduce) ?_
 simp(maxDischargeDepth:=9)only[auX]
 refine W.loopI (fun k t H2=>H2=H/\PT.get .h t=some (.int .i64 (.ofNat 0))/\PT.get (.o (.o .h)) t=some (.int .i64 (.ofNat 1))) ?_ 0 _ _ ⟨rfl,rfl,rfl⟩
 rintro k t H2 ⟨rfl,t0,t3⟩
 simp(maxDischargeDepth:=9)only[auX,↓reduceIte,t0,t3,eq_false (show ¬ 128<=0 by omega)]
theorem q9q{H:AHeap}{N:Nat}{v:AVal}{us:List Nat}(h:Bo N H v us)(hN:N<=H.nx.toNat)(hl:us.length<=1000000) :∃ w H',z0f E 146 [v,.int .i64 (.ofNat 0)] H w H'/\Bo H.nx.toNat H' w (us++[0])/\Keep H.nx.toNat H H':=by
 obtain⟨w1,H1,c1,G1,K1⟩:=z62 C h.by.1 (by omega)
 have B1:Bo H.nx.toNat H1 w1 us:=⟨G1,h.2⟩
 have n1:=K1.nx
 obtain⟨w2,H2,a2,G2,K2⟩:=z4q (by':=1) (by omega) B1.1 n1 (row:=[.int .u8 (.ofNat 0)]) rfl rfl (by omega)
 suffices hh:∃ r H3,z0f E 146 [v,.int .i64 (.ofNat 0)] H r H3/\(r=w2/\H3=H2)from by
  obtain⟨_,_,hc,rfl,rfl⟩:=hh
  refine⟨_,_,hc,⟨?_,?_⟩,K1.trans K2⟩
  .have:z0b (us++[0])=z0b us++[.int .u8 (.ofNat 0)]:=y94 us [0]
   rw[this,List.length_append]
   exact G2
  .intro u hu
   rcases List.mem_append.1 hu with hu | hu
   .exact h.2 u hu
   .obtain rfl:u=0:=by simpa using hu
    omega
 have s1:=h.by.sc
 have z2:z1n .u64 (.ofNat 0)=.ofNat 0:=rfl
 have z3:z0l .mul (.int .u64 (.ofNat 7)) (.int .u64 (.ofNat 0))=some (.int .u64 (.ofNat 0)):=rfl
 have z4:z0l .shr (.int .i64 (.ofNat 0)) (.int .u64 (.ofNat 0))=some (.int .i64 (.ofNat 0)):=rfl
 have z5:z0l .and (.int .i64 (.ofNat 0)) (.int .i64 (.ofNat 127))=some (.int .i64 (.ofNat 0)):=rfl
 have z6:z1n .u8 (.ofNat 0)=.ofNat 0:=rfl
 have z8:z0l .geq (.int .i64 (.negSucc 0)) (.int .i64 (.ofNat 0))=some (.bool false):=rfl
 have z1:z0l .sub (.int .i64 (.ofNat 1)) (.int .i64 (.ofNat 1))=some (.int .i64 (.ofNat 0)):=rfl
 refine C.c146.rr (by conv=>lhs;reduce) ?_
 simp(maxDischargeDepth:=9)only[auX,Nat.reduceLT,z0c (k01 C (H:=H)),z0c c1,z1]
 refine W.loopI (fun k t H3=>((k=1/\H3=H1/\PT.get (.i (.i .h)) t=some (w1)/\PT.get (.o (.o (.o .h))) t=some (.int .i64 (.ofNat 0)))\/(k=0/\H3=H2/\PT.get (.i (.i .h)) t=some (w2)/\PT.get (.o (.o (.o .h))) t=some (.int .i64 (.negSucc 0))))/\PT.get (.o .h) t=some (.int .i64 (.ofNat 0))) ?_ 1 _ _ ⟨.inl ⟨rfl,rfl,rfl,rfl⟩,rfl⟩
 rintro k t H3 ⟨⟨rfl,rfl,t6,t7⟩ | ⟨rfl,rfl,t6,t7⟩,t1⟩
 .simp(maxDischargeDepth:=9)only[auX,t1,t6,t7,z0r a2,y5w,z2,z3,z4,z5,z6,eq_true (Nat.le_refl 0),eq_false (Nat.lt_irrefl 0)]
  exact⟨0,by omega,by simp⟩
 .simp(maxDischargeDepth:=9)only[auX,↓reduceIte,t6,t7,z8]
end
def shL(n crc:Nat) :List AVal:=if n=0 then[]else[.int .i64 (.ofNat 41),.int .u32 (.ofNat crc),.int .i64 (.ofNat 0)]
def zs(n:Nat) :List AVal:=List.replicate n (.int .i64 (.ofNat 0))
theorem q8f{n i:Nat}(h:i<n) :(zs n)[i]? = some (.int .i64 (.ofNat 0)):=by simp[zs,h]
structure Mf (H:AHeap) (vc vs vd:AVal) (n crc:Nat) :Prop where
 c:Rd 1 H vc (cutL n).length (cutL n)
 s:Rd 3 H vs (cutL n).length (shL n crc)
 d:Rd 1 H vd n (zs n)
abbrev mfc(n:Nat)(vc vs vd:AVal) :List AVal:=[.int .i64 (.ofNat 1),.int .i64 (.ofNat n),vc,vs,vd]
theorem Mf.keep{m:Nat}{H H':AHeap}{vc vs vd:AVal}{n crc:Nat}(h:Mf H vc vs vd n crc)(k:Keep m H H')(hm:H.nx.toNat<=m) :Mf H' vc vs vd n crc:=⟨h.c.keep k hm,h.s.keep k hm,h.d.keep k hm⟩
theorem Mf.sc{H:AHeap}{vc vs vd:AVal}{n crc:Nat}(h:Mf H vc vs vd n crc) :z1g vc=true/\z1g vs=true/\z1g vd=true/\same vc vc=true/\same vs vs=true/\same vd vd=true:=⟨h.c.scal,h.s.scal,h.d.scal,h.c.same,h.s.same,h.d.same⟩
theorem Mf.len{H:AHeap}{vc vs vd:AVal}{n crc:Nat}(h:Mf H vc vs vd n crc) :(∀ H2,fLen H2 1 vc=some (.int .i64 (.ofNat (cutL n).length)))/\(∀ H2,fLen H2 1 vs=some (.int .i64 (.ofNat (cutL n).length)))/\∀ H2,fLen H2 1 vd=some (.int .i64 (.ofNat n)):=⟨fun _=>h.c.len,fun _=>h.s.len,fun _=>h.d.len⟩
theorem Mf.deg{H:AHeap}{vc vs vd:AVal}{n crc:Nat}(h:Mf H vc vs vd n crc){i:Nat}(hi:i<n) :∃ b o,z2t 1 vd (.int .i64 (.ofNat i))=some (.ptr b o)/\z04 H b o=some (.int .i64 (.ofNat 0)):=h.d.at1 (q8f hi)
theorem Mf.sh{H:AHeap}{vc vs vd:AVal}{n crc:Nat}(h:Mf H vc vs vd n crc)(hn:0<n) :∃ b o,z2t 3 vs (.int .i64 (.ofNat 0))=some (.ptr b o)/\z04 H b o=some (.int .i64 (.ofNat 41))/\z04 H b (o+1)=some (.int .u32 (.ofNat crc))/\z04 H b (o+2)=some (.int .i64 (.ofNat 0)):=by
 have hc:(cutL n).length=1:=by simp only[cutL];rw[if_neg (by omega)];rfl
 have hs:shL n crc=[.int .i64 (.ofNat 41),.int .u32 (.ofNat crc),.int .i64 (.ofNat 0)]:=by simp only[shL];rw[if_neg (by omega)]
 have:=h.s
 rw[hc,hs]at this
 obtain⟨b,o,h1,_,h3⟩:=this.at (i:=0) (by omega)
 exact⟨b,o,h1,h3 0 (by omega) (by simp),h3 1 (by omega) (by simp),h3 2 (by omega) (by simp)⟩
theorem Mf.shK{H:AHeap}{vc vs vd:AVal}{n crc:Nat}(h:Mf H vc vs vd n crc)(hn:0<n) :∃ b o,z2t 3 vs (.int .i64 (.ofNat 0))=some (.ptr b o)/\∀ H2,Keep H.nx.toNat H H2->z04 H2 b o=some (.int .i64 (.ofNat 41))/\z04 H2 b (o+1)=some (.int .u32 (.ofNat crc))/\z04 H2 b (o+2)=some (.int .i64 (.ofNat 0)):=by
 obtain⟨b,o,h1,_⟩:=h.sh hn
 refine⟨b,o,h1,fun H2 k=>?_⟩
 obtain⟨_,_,h2,h3⟩:=(h.keep k lr).sh hn
 rw[h1]at h2
 cases h2
 exact h3
theorem z60{n:Nat}(h:n≠0) :(cutL n).length=1:=by simp[cutL,h]
theorem q2u:(cutL 0).length=0:=rfl
theorem Mf.cut{H:AHeap}{vc vs vd:AVal}{n crc:Nat}(h:Mf H vc vs vd n crc)(hn:0<n) :∃ b o,z2t 1 vc (.int .i64 (.ofNat 0))=some (.ptr b o)/\z04 H b o=some (.int .i64 (.ofNat n)):=h.c.at1 (by simp only[cutL];rw[if_neg (by omega)];rfl)
section
variable{E:Env}(C:Ck E)
include C
theorem k2y{H:AHeap}{vc vs vd:AVal}{n crc:Nat}(M:Mf H vc vs vd n crc)(hn:n<=2000) :∃ H',z0f E 209 [.agg (mfc n vc vs vd)] H (.bool true) H'/\Keep H.nx.toNat H H':=by
 have k1:Keep H.nx.toNat H (H.new (.cells (mfc n vc vs vd) false false)).2:=z0d
 have l1:H.nx.toNat<(H.new (.cells (mfc n vc vs vd) false false)).2.nx.toNat:=z0h
 obtain⟨w,H2,c2,G2,K2⟩:=y7x C (M.keep k1 lr).c (show n<=16777216 by omega)
 have g2:PT.get H.nx H2.t=some (.cells (mfc n vc vs vd) false false):=(K2.get H.nx l1).trans z0i
 have kk:=k1.trans (K2.mono (Nat.le_of_lt l1))
 have M2:=M.keep kk lr
 have sc:=M.sc
 have ln:=M2.len
 suffices hh:∃ r H',z0f E 209 [.agg (mfc n vc vs vd)] H r H'/\(r=.bool true/\H'=H2)from by
  obtain⟨_,_,hc,rfl,rfl⟩:=hh
  exact⟨_,hc,kk⟩
 refine C.c209.rr (by conv=>lhs;reduce) ?_
 simp(maxDischargeDepth:=9)only[auX,bq,Nat.reduceLT,zA,aZ,mfc,z0c c2,hl_g g2,ln]
 refine W.loopI (fun k t H'=>∃ i,i+k=n/\H'=H2/\PT.get (.o .h) t=some (.ptr H.nx 0)/\PT.get (.o (.o .h)) t=some (w)/\PT.get (.o (.i .h)) t=some (.int .i64 (.ofNat i))) ?_ n _ _ ⟨0,by omega,rfl,rfl,rfl,rfl⟩
 rintro k t H' ⟨i,hi,rfl,t1,t3,t5⟩
 by_cases hk:k=0
 .obtain rfl:i=n:=by omega
  simp(maxDischargeDepth:=9)only[auX,↓reduceIte,zA,t1,t5,hl_g g2,eq_false (Nat.lt_irrefl i)]
  by_cases h0:i=0
  .subst h0
   refine W.loopI (fun k t H2=>H2=H'/\PT.get (.o .h) t=some (.ptr H.nx 0)/\PT.get (.i (.i .h)) t=some (.int .i64 (.ofNat 0))) ?_ 0 _ _ ⟨rfl,by simp(maxDischargeDepth:=9)only[auX,t1]⟩
   rintro k t H2 ⟨rfl,t1,t6⟩
   simp(maxDischargeDepth:=9)only[auX,↓reduceIte,zA,t1,t6,hl_g g2,ln,q2u,eq_false (Nat.lt_irrefl 0)]
  .have hl:=z60 h0
   obtain⟨b,o,x1,x2,x3,x4⟩:=M2.sh (by omega)
   refine W.loopI (fun k t H2=>H2=H'/\PT.get (.o .h) t=some (.ptr H.nx 0)/\PT.get (.o (.o .h)) t=some (w)/\((k=1/\PT.get (.i (.i .h)) t=some (.int .i64 (.ofNat 0)))\/(k=0/\PT.get (.i (.i .h)) t=some (.int .i64 (.ofNat 1))))) ?_ 1 _ _ ⟨rfl,by simp(maxDischargeDepth:=9)only[auX,t1],by simp(maxDischargeDepth:=9)only[auX,t3],.inl ⟨rfl,by simp(maxDischargeDepth:=9)only[auX]⟩⟩
   rintro k t H2 ⟨rfl,t1,t3,⟨rfl,t6⟩ | ⟨rfl,t6⟩⟩
   .simp(maxDischargeDepth:=9)only[auX,bq,Nat.reduceLT,zA,aZ,t1,t3,t6,hl_g g2,ln,hl,x1,x2,x4,z0c (y1y C (H:=H2) (m:=41) (by omega)),z0c (y1y C (H:=H2) (m:=0) (by omega)),z0c (y6t C (show 0<i by omega) G2.1.rd)]
    refine W.loopI (fun k t H3=>∃ j,j+k=i/\H3=H2/\PT.get (.o .h) t=some (.ptr H.nx 0)/\PT.get (.o (.o .h)) t=some (w)/\PT.get (.i (.i .h)) t=some (.int .i64 (.ofNat 0))/\PT.get (.i (.i (.o .h))) t=some (.int .i64 (.ofNat i))/\PT.get (.o (.o (.i .h))) t=some (.int .i64 (.ofNat 0))/\PT.get (.i (.o (.i .h))) t=some (.int .i64 (.ofNat j))) ?_ i _ _ ?_
    rotate_left
    .refine⟨0,by omega,rfl,?_⟩
     simp(maxDischargeDepth:=9)only[auX,t1,t3,t6]
    rintro k t H3 ⟨j,hj,rfl,t1,t3,t6,t10,t11,t12⟩
    by_cases hk2:k=0
    .simp(maxDischargeDepth:=9)only[auX,↓reduceIte,zA,t1,t3,t6,t10,t11,t12,hl_g g2,x1,x4,eq_false (show ¬ j<i by omega),z0o (i:=0) (k:=1) (by omega)]
     exact⟨0,by omega,.inr rfl⟩
    .obtain⟨b2,o2,d1,d2⟩:=M2.deg (show j<i by omega)
     simp(maxDischargeDepth:=9)only[auX,zA,aZ,t1,t3,t6,t10,t11,t12,hl_g g2,d1,d2,eq_true (show j<i by omega),z0o (i:=j) (k:=1) (by omega),z0o (i:=0) (k:=0) (by omega)]
     exact⟨k-1,by omega,j+1,by omega,rfl⟩
   .simp(maxDischargeDepth:=9)only[auX,↓reduceIte,zA,t1,t6,hl_g g2,ln,hl,eq_false (Nat.lt_irrefl 1)]
 .obtain⟨b2,o2,d1,d2⟩:=M2.deg (show i<n by omega)
  simp(maxDischargeDepth:=9)only[auX,bq,Nat.reduceLT,zA,t1,t3,t5,hl_g g2,d1,d2,eq_true (show i<n by omega),eq_false (show ¬ n<=0 by omega),z0o (i:=i) (k:=1) (by omega)]
  exact⟨k-1,by omega,i+1,by omega,rfl⟩
end
abbrev ics(xs:List Nat) :List AVal:=xs.map fun x=>.int .i64 (.ofNat x)
def gmx(xs:List Nat) :Nat:=xs.foldl max 0
theorem q2d{xs:List Nat}{i:Nat}(hi:i<xs.length) :max (gmx (xs.take i)) xs[i]=gmx (xs.take (i+1)):=by
 unfold gmx
 rw[List.take_succ_eq_append_getElem hi,List.foldl_append]
 rfl
section
variable{E:Env}(C:Ck E)
include C
theorem q2b{H:AHeap}{v:AVal}{xs:List Nat}(h:Rd 1 H v xs.length (ics xs))(hl:xs.length<=1000000) :z0f E 95 [v] H (.int .i64 (.ofNat (gmx xs))) H:=by
 suffices hh:∃ r H2,z0f E 95 [v] H r H2/\(r=.int .i64 (.ofNat (gmx xs))/\H2=H)from by
  obtain⟨_,_,hc,rfl,rfl⟩:=hh
  exact hc
 refine C.c95.rr (by conv=>lhs;reduce) ?_
 simp(maxDischargeDepth:=9)only[auX]
 refine W.loopI (fun k t H2=>H2=H/\∃ i,i+k=xs.length/\PT.get .h t=some (v)/\PT.get (.o (.o .h)) t=some (.int .i64 (.ofNat (gmx (xs.take i))))/\PT.get (.i (.o .h)) t=some (.int .i64 (.ofNat i))) ?_ xs.length _ _ ⟨rfl,0,by omega,rfl,rfl,rfl⟩
 rintro k t H2 ⟨rfl,i,hi,t0,t3,t4⟩
 by_cases hk:k=0
 .obtain rfl:i=xs.length:=by omega
  simp(maxDischargeDepth:=9)only[auX,↓reduceIte,t0,t3,t4,h.len,eq_false (Nat.lt_irrefl xs.length),List.take_length]
 .have hi2:i<xs.length:=by omega
  obtain⟨b,o,i1,i2⟩:=Rd.at1 h (i:=i) (x:=.int .i64 (.ofNat xs[i])) (by simp[hi2])
  simp(maxDischargeDepth:=9)only[auX,t0,t3,t4,h.len,hi2,i1,i2,k0r,q2d hi2,z0o (i:=i) (k:=1) (by omega)]
  exact⟨k-1,by omega,i+1,by omega,by simp[q2d hi2],rfl⟩
end
theorem z80{N:Nat}{H:AHeap} :Bo N H .snil []:=⟨GO.nil,fun u hu=>by cases hu⟩
def LO(N:Nat)(H:AHeap)(v:AVal)(uss:List (List Nat)) :Prop:=∃ zs:List (AVal×List Nat),zs.map (·.2)=uss/\GO 1 N H v zs.length (zs.map (·.1))/\∀ z∈zs,Bo N H z.1 z.2/\∀ p,blk z.1 p->¬ blk v p
theorem LO.nil{N:Nat}{H:AHeap} :LO N H .snil []:=⟨[],rfl,GO.nil,fun z hz=>by cases hz⟩
theorem LO.keep{N m:Nat}{H H':AHeap}{v:AVal}{uss:List (List Nat)}(h:LO N H v uss)(k:Keep m H H')(hm:H.nx.toNat<=m) :LO N H' v uss:=by
 obtain⟨zs,h1,h2,h3⟩:=h
 exact⟨zs,h1,⟨h2.1.keep k hm,h2.2⟩,fun z hz=>⟨(h3 z hz).1.keep k hm,(h3 z hz).2⟩⟩
theorem LO.mono{N M:Nat}{H:AHeap}{v:AVal}{uss:List (List Nat)}(h:LO N H v uss)(hm:M<=N) :LO M H v uss:=by
 obtain⟨zs,h1,h2,h3⟩:=h
 exact⟨zs,h1,h2.mono hm,fun z hz=>⟨(h3 z hz).1.mono hm,(h3 z hz).2⟩⟩
theorem LO.more{N:Nat}{H:AHeap}{v w:AVal}{uss:List (List Nat)}{us:List Nat}(h:LO N H v uss)(hw:Bo N H w us)(hwv:∀ p,blk w p->¬ blk v p)(hN:N<=H.nx.toNat)(hl:uss.length<=1000000) :∃ v' H',z09 (H.new (.cells [w] false false)).2 1 24 v (.sl H.nx 0 1 1 0)=some (v',H')/\LO N H' v' (uss++[us])/\Keep N H H':=by
 obtain⟨zs,rfl,G,hz⟩:=h
 simp at hl
 obtain⟨v',H',a,G',K,fr,fb,nn⟩:=z2u (by':=24) (by omega) G hN (row:=[w]) rfl (by rw[z0p hw.by.sc.2.1];rfl) (by omega)
 refine⟨v',H',a,⟨zs++[(w,us)],by simp,by rw[List.map_append,List.length_append];exact G',fun z hzz=>?_⟩,K⟩
 have key:∀ z:AVal×List Nat,Bo N H z.1 z.2->(∀ p,blk z.1 p->¬ blk v p)->Bo N H' z.1 z.2/\∀ p,blk z.1 p->¬ blk v' p:=fun z hb hv=>⟨hb.other (fun p hp=>fr p (hb.by.1.blk_lt p hp) (hv p hp)) nn,fun p hp e=>by have:=fb p e;have:=hb.by.1.blk_lt p hp;omega⟩
 rcases List.mem_append.1 hzz with h1 | h1
 .exact key z (hz z h1).1 (hz z h1).2
 .obtain rfl:z=(w,us):=by simpa using h1
  exact key _ hw hwv
def j83(xs:List Nat)(k:Nat) :List Nat:=((xs.drop (200*k)).take 200).flatMap b4
def z5c(xs:List Nat)(k:Nat) :List (List Nat):=(List.range k).map (j83 xs)
theorem y1c(xs:List Nat)(k:Nat) :z5c xs k++[j83 xs k]=z5c xs (k+1):=by
 unfold z5c
 rw[List.range_succ,List.map_append]
 rfl
def part(xs:List Nat)(k j:Nat) :List Nat:=((xs.drop (200*k)).take j).flatMap b4
theorem q93{xs:List Nat}{k j:Nat}(h:200*k+j<xs.length) :part xs k j++b4 xs[200*k+j]=part xs k (j+1):=by
 unfold part
 rw[List.take_succ_eq_append_getElem (by rw[List.length_drop];omega),List.flatMap_append]
 simp
theorem y1w(xs:List Nat)(k j:Nat) :(part xs k j).length<=4*j:=by
 unfold part
 have:=j2b (f:=b4) (M:=4) (l:=(xs.drop (200*k)).take j) (fun a _=>by rw[z0k];omega)
 have h2:((xs.drop (200*k)).take j).length<=j:=by rw[List.length_take];omega
 have h3:((xs.drop (200*k)).take j).length*4<=j*4:=Nat.mul_le_mul_right 4 h2
 omega
theorem q4g{xs:List Nat}{k j:Nat}(h:j=200\/(xs.length=200*k+j/\j<=200)) :part xs k j=j83 xs k:=by
 unfold part j83
 rcases h with rfl | ⟨h1,h2⟩
 .rfl
 .rw[List.take_of_length_le (by rw[List.length_drop];omega),List.take_of_length_le (by rw[List.length_drop];omega)]
section
variable{E:Env}(C:Ck E)
include C
theorem q5c{H:AHeap}{v:AVal}{xs:List Nat}(h:Rd 1 H v xs.length (ics xs))(hl:xs.length<=1000000)(hg:∀ x∈xs,x<xs.length) :∃ w l H',z0f E 42 [.int .i64 (.ofNat 1),v] H (.tup [w,l,.int .i64 (.ofNat 0)]) H'/\Bo H.nx.toNat H' w (b4 1++b4 xs.length++b4 (gmx xs))/\LO H.nx.toNat H' l (z5c xs ((xs.length+199)/200))/\Keep H.nx.toNat H H':=by
 have gm:gmx xs<4294967296:=by
  have:∀ (l:List Nat) (a:Nat),a<=1000000->(∀ x∈l,x<=1000000)->l.foldl max a<=1000000:=fun l=>by
   induction l with
   | nil=>intro a ha _;exact ha
   | cons x l ih=>intro a ha hx;exact ih _ (Nat.max_le.2 ⟨ha,hx x (by simp)⟩) (fun y hy=>hx y (by simp[hy]))
  have:=this xs 0 (by omega) (fun x hx=>by have:=hg x hx;omega)
  unfold gmx;omega
 obtain⟨w1,H1,c1,B1,K1⟩:=z8p C (H:=H) (N:=H.nx.toNat) (v:=.snil) (us:=[]) z80 lr (m:=1) (by omega) (by simp)
 have n1:=K1.nx
 obtain⟨w2,H2,c2,B2,K2⟩:=z8p C B1 n1 (m:=xs.length) (by omega) (by simp[z0k])
 have n2:=K2.nx
 have r2:=h.keep (K1.trans K2) lr
 have cg:=q2b C r2 (by omega)
 obtain⟨w3,H3,c3,B3,K3⟩:=z8p C B2 (by omega) (m:=gmx xs) gm (by simp[z0k])
 have n3:=K3.nx
 have K123:=(K1.trans K2).trans K3
 suffices hh:∃ r H',z0f E 42 [.int .i64 (.ofNat 1),v] H r H'/\(∃ l,r=.tup [w3,l,.int .i64 (.ofNat 0)]/\Bo H.nx.toNat H' w3 ([]++b4 1++b4 xs.length++b4 (gmx xs))/\LO H.nx.toNat H' l (z5c xs ((xs.length+199)/200))/\Keep H.nx.toNat H H')from by
  obtain⟨_,H',hc,l,rfl,a,b,c⟩:=hh
  exact⟨w3,l,H',hc,a,b,c⟩
 refine C.c42.rr (by conv=>lhs;reduce) ?_
 simp(maxDischargeDepth:=9)only[auX,bq,Nat.reduceLT,h.len,eq_false (show ¬ 16777216<xs.length by omega)]
 refine W.loopI (fun k t H'=>H'=H/\∃ i,i+k=xs.length/\PT.get .h t=some (.int .i64 (.ofNat 1))/\PT.get (.o .h) t=some (v)/\PT.get (.o (.o (.o .h))) t=some (.int .i64 (.ofNat i))) ?_ xs.length _ _ ⟨rfl,0,by omega,rfl,rfl,rfl⟩
 rintro k t H' ⟨rfl,i,hi,t0,t1,t7⟩
 by_cases hk:0<k
 .have hi2:i<xs.length:=by omega
  obtain⟨b,o,i1,i2⟩:=Rd.at1 h (i:=i) (x:=.int .i64 (.ofNat xs[i])) (by simp[hi2])
  have hgi:=hg _ (List.getElem_mem hi2)
  simp(maxDischargeDepth:=9)only[auX,bq,t0,t1,t7,h.len,hi2,i1,i2,eq_false (show ¬ xs[i]<0 by omega),eq_false (show ¬ xs.length<=xs[i]by omega),z0o (i:=i) (k:=1) (by omega)]
  exact⟨k-1,by omega,i+1,by omega,rfl⟩
 .obtain rfl:i=xs.length:=by omega
  simp(maxDischargeDepth:=9)only[auX,↓reduceIte,t0,t1,t7,h.len,eq_false (Nat.lt_irrefl xs.length),z0c c1,z0c c2,z0c cg,z0c c3]
  refine W.loopI (fun k t H4=>∃ m l,m+k=(xs.length+199)/200/\PT.get (.o .h) t=some (v)/\PT.get (.i (.o (.o .h))) t=some (w3)/\PT.get (.o (.i (.o .h))) t=some (l)/\PT.get (.i (.i (.o .h))) t=some (.int .i64 (.ofNat (200*m)))/\LO H3.nx.toNat H4 l (z5c xs m)/\Keep H3.nx.toNat H3 H4) ?_ ((xs.length+199)/200) _ _ ⟨0,.snil,by omega,by simp(maxDischargeDepth:=9)only[auX,t1],by simp(maxDischargeDepth:=9)only[auX],by simp(maxDischargeDepth:=9)only[auX],by simp(maxDischargeDepth:=9)only[auX],LO.nil,Keep.refl _ _⟩
  rintro k t H4 ⟨m,l,hm,t1,t8,t9,t10,L4,K4⟩
  have n4:=K4.nx
  have K4':Keep H'.nx.toNat H' H4:=K123.trans (K4.mono K123.nx)
  have r4:=h.keep K4' lr
  by_cases hk:k=0
  .subst hk
   have hge:¬ 200*m<xs.length:=by omega
   obtain rfl:m=(xs.length+199)/200:=by omega
   simp(maxDischargeDepth:=9)only[auX,↓reduceIte,t1,t8,t9,t10,r4.len,eq_false hge]
   exact⟨l,rfl,B3.keep K4 lr,L4.mono K123.nx,K4'⟩
  .have hlt:200*m<xs.length:=by omega
   simp(maxDischargeDepth:=9)only[auX,t1,t10,r4.len,hlt]
   refine W.loopI (fun k2 t H5=>∃ j w,j+k2=min 200 (xs.length-200*m)/\PT.get (.o .h) t=some (v)/\PT.get (.i (.o (.o .h))) t=some (w3)/\PT.get (.o (.i (.o .h))) t=some (l)/\PT.get (.i (.i (.o .h))) t=some (.int .i64 (.ofNat (200*m)))/\PT.get (.o (.o (.i .h))) t=some (w)/\PT.get (.i (.o (.i .h))) t=some (.int .i64 (.ofNat (200*m+j)))/\Bo H4.nx.toNat H5 w (part xs m j)/\Keep H4.nx.toNat H4 H5) ?_ (min 200 (xs.length-200*m)) _ _ ⟨0,.snil,by omega,by simp(maxDischargeDepth:=9)only[auX,t1],by simp(maxDischargeDepth:=9)only[auX,t8],by simp(maxDischargeDepth:=9)only[auX,t9],by simp(maxDischargeDepth:=9)only[auX,t10],by simp(maxDischargeDepth:=9)only[auX],by simp(maxDischargeDepth:=9)only[auX,aZ],z80,Keep.refl _ _⟩
   rintro k2 t H5 ⟨j,w,hj,t1,t8,t9,t10,t11,t12,B5,K5⟩
   have n5:=K5.nx
   have r5:=r4.keep K5 lr
   by_cases hk2:k2=0
   .have pe:=q4g (xs:=xs) (k:=m) (j:=j) (by omega)
    rw[pe]at B5
    have hlb:∀ p,blk l p->p.toNat<H4.nx.toNat:=fun p hp=>by
     obtain⟨zs,_,G,_⟩:=L4
     exact G.1.rd.blk_lt p hp
    obtain⟨v',H6,a6,L6,K6⟩:=(L4.keep K5 lr).more (B5.mono n4) (fun p hp e=>by have:=B5.1.2 p hp;have:=hlb p e;omega) (by omega) (by simp[z5c];omega)
    rw[y1c]at L6
    have b5s:=B5.by.sc
    have K46:Keep H3.nx.toNat H3 H6:=(K4.trans (K5.mono n4)).trans K6
    by_cases hf:200*m+j<xs.length
    .simp(maxDischargeDepth:=9)only[auX,bq,↓reduceIte,t1,t8,t9,t10,t11,t12,r5.len,hf,z0o (i:=200*m) (k:=200) (by omega),eq_false (show ¬ 200*m+j<200*m+200 by omega),b5s,z0r a6]
     exact⟨k-1,by omega,m+1,v',by omega,rfl,by rw[Nat.mul_add],L6,K46⟩
    .simp(maxDischargeDepth:=9)only[auX,↓reduceIte,t1,t8,t9,t10,t11,t12,r5.len,eq_false hf,z0o (i:=200*m) (k:=200) (by omega),b5s,z0r a6]
     exact⟨k-1,by omega,m+1,v',by omega,rfl,by rw[Nat.mul_add],L6,K46⟩
   .have hj2:200*m+j<xs.length:=by omega
    obtain⟨b,o,i1,i2⟩:=Rd.at1 r5 (i:=200*m+j) (x:=.int .i64 (.ofNat xs[200*m+j])) (by simp[hj2])
    have hgi:=hg _ (List.getElem_mem hj2)
    have pl:=y1w xs m j
    obtain⟨w6,H6,c6,B6,K6⟩:=z8p C B5 n5 (m:=xs[200*m+j]) (by omega) (by omega)
    rw[q93 hj2]at B6
    simp(maxDischargeDepth:=9)only[auX,bq,t1,t8,t9,t10,t11,t12,r5.len,hj2,i1,i2,z0o (i:=200*m) (k:=200) (by omega),eq_true (show 200*m+j<200*m+200 by omega),z0c c6,z0o (i:=200*m+j) (k:=1) (by omega)]
    exact⟨k2-1,by omega,j+1,w6,by omega,rfl,rfl,B6,K5.trans K6⟩
end
def zrow(n k:Nat) :List Nat:=List.replicate (min 200 (n-200*k)) 0
def z1r(n k:Nat) :List (List Nat):=(List.range k).map (zrow n)
theorem j6e(n k:Nat) :z1r n k++[zrow n k]=z1r n (k+1):=by
 unfold z1r
 rw[List.range_succ,List.map_append]
 rfl
def mrow(n crc:Nat) :List (List Nat):=if n=0 then[]else[b4 n++b4 41++b4 crc++b4 0]
def z15(n crc:Nat) :List (List Nat):=mrow n crc++z1r n ((n+199)/200)
abbrev z6b(n:Nat) :List Nat:=b4 1++b4 n++b4 (cutL n).length
theorem zrep(j:Nat) :List.replicate j 0++[0]=List.replicate (j+1) 0:=by rw[List.replicate_succ']
theorem LO.lt{N:Nat}{H:AHeap}{v:AVal}{uss:List (List Nat)}(h:LO N H v uss)(p:Pos)(hp:blk v p) :p.toNat<H.nx.toNat:=by
 obtain⟨zs,_,G,_⟩:=h
 exact G.1.rd.blk_lt p hp
theorem LO.sc{N:Nat}{H:AHeap}{v:AVal}{uss:List (List Nat)}(h:LO N H v uss) :z1g v=true/\same v v=true:=by
 obtain⟨zs,_,G,_⟩:=h
 exact⟨G.1.rd.scal,G.1.rd.same⟩
theorem j1l(a:Nat) :z0l .rem (.int .i64 (.ofNat a)) (.int .i64 (.ofNat 200))=some (.int .i64 (.ofNat (a%200))):=rfl
theorem q9h(a:Nat) :z0l .rem (.int .i64 (.ofNat a)) (.int .i64 (.ofNat 50))=some (.int .i64 (.ofNat (a%50))):=rfl
section
variable{E:Env}(C:Ck E)
include C
theorem q5d{H:AHeap}{vc vs vd:AVal}{n crc:Nat}(M:Mf H vc vs vd n crc)(hn:n<=2000)(hcr:crc<4294967296) :∃ w l H',z0f E 150 [.agg (mfc n vc vs vd)] H (.tup [w,l,.int .i64 (.ofNat 0)]) H'/\Bo H.nx.toNat H' w (z6b n)/\LO H.nx.toNat H' l (z15 n crc)/\Keep H.nx.toNat H H':=by
 have k1:Keep H.nx.toNat H (H.new (.cells (mfc n vc vs vd) false false)).2:=z0d
 have l1:H.nx.toNat<(H.new (.cells (mfc n vc vs vd) false false)).2.nx.toNat:=z0h
 obtain⟨H2,c2,K2⟩:=k2y C (M.keep k1 lr) hn
 have g1:PT.get H.nx (H.new (.cells (mfc n vc vs vd) false false)).2.t=some (.cells (mfc n vc vs vd) false false):=z0i
 have g2:PT.get H.nx H2.t=some (.cells (mfc n vc vs vd) false false):=(K2.get H.nx l1).trans g1
 have n2:=K2.nx
 have hN:H.nx.toNat<=H2.nx.toNat:=by omega
 obtain⟨w3,H3,c3,B3,K3⟩:=z3s C (H:=H2) (N:=H2.nx.toNat) (v:=.snil) (us:=[]) z80 lr (m:=1) (by omega) (by simp)
 have n3:=K3.nx
 obtain⟨w4,H4,c4,B4,K4⟩:=z3s C B3 n3 (m:=n) (by omega) (by simp[z0k])
 have n4:=K4.nx
 have hcl:(cutL n).length<=1:=by unfold cutL;split<;>simp
 obtain⟨w5,H5,c5,B5,K5⟩:=z3s C B4 (by omega) (m:=(cutL n).length) (by omega) (by simp[z0k])
 have n5:=K5.nx
 have K25:=(K3.trans K4).trans K5
 have kk2:=k1.trans (K2.mono (Nat.le_of_lt l1))
 have kk:=kk2.trans (K25.mono hN)
 have g3:PT.get H.nx H3.t=some (.cells (mfc n vc vs vd) false false):=(K3.get H.nx (by omega)).trans g2
 have g4:PT.get H.nx H4.t=some (.cells (mfc n vc vs vd) false false):=(K4.get H.nx (by omega)).trans g3
 have g5:PT.get H.nx H5.t=some (.cells (mfc n vc vs vd) false false):=(K25.get H.nx (by omega)).trans g2
 have sc:=M.sc
 have ln:=M.len
 suffices hh:∃ r H',z0f E 150 [.agg (mfc n vc vs vd)] H r H'/\(∃ l,r=.tup [w5,l,.int .i64 (.ofNat 0)]/\Bo H.nx.toNat H' w5 ([]++b4 1++b4 n++b4 (cutL n).length)/\LO H.nx.toNat H' l (z15 n crc)/\Keep H.nx.toNat H H')from by
  obtain⟨_,H',hc,l,rfl,a,b,c⟩:=hh
  exact⟨w5,l,H',hc,a,b,c⟩
 refine C.c150.rr (by conv=>lhs;reduce) ?_
 simp(maxDischargeDepth:=9)only[auX,reduceCtorEq,zA,aZ,Nat.reduceAnd,mfc,sc,hn_g g1,z0c c2,hl_g g2,hl_g g3,hl_g g4,ln,z0j c3,z0j c4,z0j c5]
 refine W.loopI (fun k t H'=>∃ i l,i+k=(cutL n).length/\LO H5.nx.toNat H' l (if i=(cutL n).length then mrow n crc else[])/\Keep H5.nx.toNat H5 H'/\PT.get (.o .h) t=some (.ptr H.nx 0)/\PT.get (.i (.i .h)) t=some (w5)/\PT.get (.o (.o (.o .h))) t=some (l)/\PT.get (.i (.o (.o .h))) t=some (.snil)/\PT.get (.o (.i (.o .h))) t=some (.int .i64 (.ofNat i))) ?_ (cutL n).length _ _ ?_
 rotate_left
 .refine⟨0,.snil,by omega,?_,Keep.refl _ _,?_⟩
  .unfold mrow cutL
   by_cases h0:n=0<;>simp[h0,LO.nil]
  .simp(maxDischargeDepth:=9)only[auX]
 rintro k t H' ⟨i,l,hi,L,KL,t1,t6,t7,t8,t9⟩
 have gL:PT.get H.nx H'.t=some (.cells (mfc n vc vs vd) false false):=(KL.get H.nx (by omega)).trans g5
 have nL:=KL.nx
 by_cases hk:k=0
 .obtain rfl:i=(cutL n).length:=by omega
  rw[if_pos rfl]at L
  simp(maxDischargeDepth:=9)only[auX,↓reduceIte,zA,t1,t9,hl_g gL,ln,eq_false (Nat.lt_irrefl (cutL n).length)]
  refine W.loopI (fun k t H6=>∃ i q r l w,i+k=n/\((i=n/\q=(n+199)/200/\r=0)\/(i<n/\q=i/200/\r=i%200))/\LO H5.nx.toNat H6 l (mrow n crc++z1r n q)/\Bo H5.nx.toNat H6 w (List.replicate r 0)/\Keep H5.nx.toNat H5 H6/\PT.get (.o .h) t=some (.ptr H.nx 0)/\PT.get (.i (.i .h)) t=some (w5)/\PT.get (.o (.o (.o .h))) t=some (l)/\PT.get (.i (.o (.o .h))) t=some (w)/\PT.get (.i (.i (.o .h))) t=some (.int .i64 (.ofNat i))) ?_ n _ _ ?_
  rotate_left
  .refine⟨0,0,0,l,.snil,by omega,by omega,?_,z80,KL,?_⟩
   .rw[show z1r n 0=[]from rfl,List.append_nil];exact L
   .simp(maxDischargeDepth:=9)only[auX,t1,t6,t7,t8]
  rintro k t H6 ⟨i,q,r,l,w,hi,hqr,L,B,K6,t1,t6,t7,t8,t10⟩
  have g6:PT.get H.nx H6.t=some (.cells (mfc n vc vs vd) false false):=(K6.get H.nx (by omega)).trans g5
  have n6:=K6.nx
  by_cases hk:k=0
  .have hin:i=n:=by omega
   obtain rfl:q=(n+199)/200:=by omega
   simp(maxDischargeDepth:=9)only[auX,↓reduceIte,zA,t1,t6,t7,t10,hl_g g6,eq_false (show ¬ i<n by omega)]
   exact⟨l,rfl,(B5.keep K6 lr).mono (by omega),L.mono (by omega),kk.trans (K6.mono (by omega))⟩
  .obtain⟨hin,rfl,rfl⟩ :i<n/\q=i/200/\r=i%200:=by omega
   obtain⟨bb,oo,d1,d2⟩:=(M.keep (kk.trans (K6.mono (by omega))) lr).deg hin
   obtain⟨w7,H7,c7,B7,K7⟩:=q9q C B (by omega) (by simp;omega)
   rw[zrep]at B7
   have n7:=K7.nx
   have g7:PT.get H.nx H7.t=some (.cells (mfc n vc vs vd) false false):=(K7.get H.nx (by omega)).trans g6
   have b7s:=B7.by.sc
   have L7:=L.keep K7 lr
   by_cases hc:i%200=199\/i=n-1
   .have hz:List.replicate (i%200+1) 0=zrow n (i/200):=by
     unfold zrow
     congr 1
     omega
    rw[hz]at B7
    obtain⟨v8,H8,a8,L8,K8⟩:=L7.more (B7.mono (by omega)) (fun p hp e=>by have:=B7.1.2 p hp;have:=L.lt p e;omega) (by omega) (by unfold mrow z1r;split<;>simp<;>omega)
    rw[List.append_assoc,j6e]at L8
    have l8:=L8.sc
    by_cases h1:i%200=199
    .simp(maxDischargeDepth:=9)only[auX,zA,t1,t6,t7,t8,t10,hl_g g6,hin,d1,d2,z0c c7,j1l,eq_true h1,b7s,z0r a8,z0o (i:=i) (k:=1) (by omega)]
     refine⟨k-1,by omega,i+1,_,0,v8,.snil,by omega,?_,L8,z80,(K6.trans (K7.mono (by omega))).trans K8,rfl,rfl,rfl⟩
     omega
    .simp(maxDischargeDepth:=9)only[auX,bq,zA,t1,t6,t7,t8,t10,hl_g g6,hl_g g7,hin,d1,d2,z0c c7,j1l,eq_false h1,z74 (i:=n) (k:=1) (by omega) (by omega),eq_true (show i=n-1 by omega),b7s,z0r a8,z0o (i:=i) (k:=1) (by omega)]
     refine⟨k-1,by omega,i+1,_,0,v8,.snil,by omega,?_,L8,z80,(K6.trans (K7.mono (by omega))).trans K8,rfl,rfl,rfl⟩
     omega
   .simp(maxDischargeDepth:=9)only[auX,bq,zA,t1,t6,t7,t8,t10,hl_g g6,hl_g g7,hin,d1,d2,z0c c7,j1l,eq_false (show ¬ i%200=199 by omega),z74 (i:=n) (k:=1) (by omega) (by omega),eq_false (show ¬ i=n-1 by omega),z0o (i:=i) (k:=1) (by omega)]
    refine⟨k-1,by omega,i+1,_,_,l,w7,by omega,?_,L7,B7.mono (by omega),K6.trans (K7.mono (by omega)),rfl,rfl,rfl⟩
    omega
 .have h0:n≠0:=fun h0=>by subst h0;simp[cutL]at hi;omega
  have hl:=z60 h0
  obtain⟨rfl,rfl⟩ :i=0/\k=1:=by omega
  rw[if_neg (by omega)]at L
  have M':=M.keep (kk.trans (KL.mono (by omega))) lr
  obtain⟨cb,co,x1,x2⟩:=M'.cut (by omega)
  obtain⟨w6,H6,c6,B6,K6⟩:=z3s C (H:=H') (N:=H'.nx.toNat) (v:=.snil) (us:=[]) z80 lr (m:=n) (by omega) (by simp)
  have n6:=K6.nx
  obtain⟨w7,H7,c7,B7,K7⟩:=z3s C B6 n6 (m:=41) (by omega) (by simp[z0k])
  have n7:=K7.nx
  obtain⟨w8,H8,c8,B8,K8⟩:=z3s C B7 (by omega) (m:=crc) hcr (by simp[z0k])
  have n8:=K8.nx
  obtain⟨w9,H9,c9,B9,K9⟩:=z3s C B8 (by omega) (m:=0) (by omega) (by simp[z0k])
  have n9:=K9.nx
  have g6:=(K6.get H.nx (by omega)).trans gL
  have g7:=(K7.get H.nx (by omega)).trans g6
  have g8:=(K8.get H.nx (by omega)).trans g7
  have g9:=(K9.get H.nx (by omega)).trans g8
  have K69:=((K6.trans K7).trans K8).trans K9
  obtain⟨_,_,y1,yk⟩:=M'.shK (by omega)
  have y2:=yk _ K6
  have z3:=yk _ (K6.trans K7)
  have u4:=yk _ ((K6.trans K7).trans K8)
  have b9s:=B9.by.sc
  obtain⟨v10,H10,a10,L10,K10⟩:=(L.keep K69 lr).more (B9.mono nL) (fun p hp e=>by have:=B9.1.2 p hp;have:=L.lt p e;omega) (by omega) (by simp)
  have hr:[]++[[]++b4 n++b4 41++b4 crc++b4 0]=mrow n crc:=by simp[mrow,h0]
  rw[hr]at L10
  have wc:z1n .i64 (.ofNat crc)=.ofNat crc:=j00 (by omega)
  simp(maxDischargeDepth:=9)only[auX,bq,reduceCtorEq,Nat.reduceLT,Nat.reduceSub,zA,aZ,t1,t6,t7,t8,t9,hl_g gL,ln,hl,x1,x2,z0c c6,hl_g g6,y1,y2,z0c c7,hl_g g7,z3,wc,z0c c8,hl_g g8,u4,z0c c9,hl_g g9,q9h,z74 (i:=1) (k:=1) (by omega) (by omega),b9s,z0r a10,z0o (i:=0) (k:=1) (by omega),Nat.reduceMod]
  trace_state
  exact⟨0,by omega,1,v10,by omega,by rw[if_pos rfl];exact L10,(KL.trans (K69.mono nL)).trans K10,rfl,rfl⟩
end
end Go.Am
