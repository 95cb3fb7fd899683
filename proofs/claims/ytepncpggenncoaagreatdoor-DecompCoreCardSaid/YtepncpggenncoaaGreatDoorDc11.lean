import Derived.Test.YtepncpggenncoaaGreatDoorDc10
import Derived.Test.YtepncpggenncoaaGreatDoorDc9
set_option linter.all false
set_option maxRecDepth 20000
set_option maxHeartbeats 8000000
namespace Go.Am
open Go Go.Proofs
abbrev mnm:List Nat:=[109,97,110,105,102,101,115,116]
def z1z(n crc:Nat) :List Nat:=z3m (z6b n) (z15 n crc)
def mes(k:Nat) :List Ent:=match k with
 | 0=>[(mnm,0)]
 | k+1=>[(mnm,k+1),(s10,0)]
theorem q1j{s:List Nat}(h:s.all (fun c=>(97<=c && c<=122) || (48<=c && c<=57) || c==46)=true) :∀ c∈s,okc c:=fun c hc=>by
 have:=List.all_eq_true.1 h c hc
 simp only[Bool.or_eq_true,Bool.and_eq_true,decide_eq_true_eq,beq_iff_eq]at this
 unfold okc;omega
theorem nm_m:IsNm mnm:=⟨by decide,by decide,q1j (by decide)⟩
theorem k0m:IsNm ([116,46]++mnm):=⟨by decide,by decide,q1j (by decide)⟩
theorem LO.lrs{N:Nat}{S:Pos->Prop}{H:AHeap}{v:AVal}{uss:List (List Nat)}(h:LO N H v uss)(hs:∀ p,S p->p.toNat<N) :LRS S H v uss:=by
 obtain⟨zs,h1,h2,h3⟩:=h
 exact⟨zs,h1,h2.1.rd,fun p hp e=>by have:=h2.2 p hp;have:=hs p e;omega,fun z hz=>⟨(h3 z hz).1.by,fun p hp e=>by have:=(h3 z hz).1.1.2 p hp;have:=hs p e;omega⟩⟩
theorem z6m(n crc:Nat)(hn:n<=2000) :(z15 n crc).length<=11:=by
 unfold z15 mrow z1r
 rw[List.length_append,List.length_map,List.length_range]
 split<;>simp<;>omega
theorem j49(n crc:Nat) :∀ d∈z15 n crc,d.length<=200:=by
 intro d hd
 unfold z15 mrow z1r at hd
 rcases List.mem_append.1 hd with h | h
 .split at h
  .cases h
  .obtain rfl:d=_:=List.mem_singleton.1 h
   simp[z0k]
 .obtain⟨k,_,rfl⟩:=List.mem_map.1 h
  unfold zrow
  rw[List.length_replicate]
  omega
theorem z1q(n crc:Nat)(hn:n<=2000) :(z1z n crc).length<=1000000:=by
 unfold z1z z3m
 have h1:=z6m n crc hn
 have h2:=j2b (f:=fenc 2) (M:=212) (l:=z15 n crc) (fun a ha=>by have:=j49 n crc a ha;rw[z06];omega)
 simp only[List.length_append,z06,z0k]at h2 ⊢
 omega
theorem y1j{ct:Nat}(h:ct<=10000) :RB [] [[]] 0 ct:=⟨by simp,by simp,by simp,by simp,by simp,by omega,h⟩
theorem q9k{f:List Nat×Nat}{ct:Nat}(hf:f.1.length<=1000000)(h:ct<=10000) :RB [f] [[(s10,0)]] 0 ct:=⟨by simp,by simp,by simp,by simp,by simpa using hf,by omega,h⟩
section
variable{E:Env}(C:Ck E)
include C
theorem q9r{N:Nat}{H:AHeap}{F:Pos}{files:List (List Nat×Nat)}{es:List Ent}{ct:Nat}{S:Pos->Prop}(h:RS H F files [es] 0 ct S)(hN:N<=H.nx.toNat)(hct:ct<=4000)(hcase:(files=[]/\es=[])\/∃ f,f.1.length<=1000000/\files=[f]/\es=[(s10,0)]){vc vs vd:AVal}{n crc:Nat}(M:Mf H vc vs vd n crc)(hn:n<=2000)(hcr:crc<4294967296) :
  ∃ H' S',z0f E 39 [.ptr F 0,.agg (mfc n vc vs vd)] H (.int .i64 (.ofNat 0)) H'/\RS H' F (files++[(z1z n crc,(z1z n crc).length)]) [mes files.length] 0 (ct+((z15 n crc).length+6)) S'/\Step N S H S' H':=by
 obtain⟨A,hA⟩ :∃ A,A=(H.new (.cells (mfc n vc vs vd) false false)).2:=⟨_,rfl⟩
 obtain⟨B,hB⟩ :∃ B,B=(A.new (.cells (mfc n vc vs vd) false false)).2:=⟨_,rfl⟩
 have kA:Keep H.nx.toNat H A:=by rw[hA];exact z0d
 have kB:Keep A.nx.toNat A B:=by rw[hB];exact z0d
 have nA:=kA.nx
 have nB:=kB.nx
 have kAB:=kA.trans (kB.mono nA)
 have gA:PT.get H.nx A.t=some (.cells (mfc n vc vs vd) false false):=by rw[hA];exact z0i
 have gB:PT.get A.nx B.t=some (.cells (mfc n vc vs vd) false false):=by rw[hB];exact z0i
 obtain⟨w,l,H3,c3,B3,L3,K3⟩:=q5d C (M.keep kAB lr) hn hcr
 have n3:=K3.nx
 have KK:=kAB.trans (K3.mono (by omega))
 have hS:=fun p hp=>h.lt p hp
 have R3:=h.keep KK lr
 have sc:=M.sc
 have bs:=B3.by.sc
 have ls:=L3.sc
 have hv:∀ z,blk w z->¬ S z:=fun z hz e=>by have:=B3.1.2 z hz;have:=hS z e;omega
 have hl:LRS S H3 l (z15 n crc):=L3.lrs (fun p hp=>by have:=hS p hp;omega)
 obtain⟨H4,S4,c4,R4,st4⟩ :∃ H' S',z0f E 43 [.ptr F 0,.str mnm,w,l] H3 (.int .i64 (.ofNat 0)) H'/\RS H' F (files++[(z1z n crc,(z1z n crc).length)]) [mes files.length] 0 (ct+((z15 n crc).length+6)) S'/\Step N S H3 S' H':=by
  have hle:=j49 n crc
  rcases hcase with⟨rfl,rfl⟩ | ⟨f,hf,rfl,rfl⟩
  .exact j1r C R3 (by omega) (y1j (by omega)) hct k0m nm_m (j:=0) (es2:=[([116,46]++mnm,0)]) (es3:=[(mnm,0)]) (by decide) (by decide) (by decide) ⟨by simp,by simp,by simp,by simp,by simp,by omega,by omega⟩ (by decide) ⟨by decide,by decide⟩ (by decide) B3.by hv (by simp[z0k]) hl (fun d hd=>by have:=hle d hd;omega) (by have:=z6m n crc hn;omega) (z1q n crc hn)
  .exact j1r C R3 (by omega) (q9k hf (by omega)) hct k0m nm_m (j:=1) (es2:=[(s10,0),([116,46]++mnm,1)]) (es3:=[(mnm,1),(s10,0)]) (by show ratF _ [(s10,0)] 0=_;decide) (by show z1k [(s10,0)] 1 _=_;decide) (by show z1k _ 1 _=_;decide) ⟨by simp,by simp,by simp,by(simp;intro a b h;omega),by simpa using hf,by omega,by omega⟩ (by decide) ⟨by decide,by show _=1;decide⟩ (by decide) B3.by hv (by simp[z0k]) hl (fun d hd=>by have:=hle d hd;omega) (by have:=z6m n crc hn;omega) (z1q n crc hn)
 have c91:z0f E 91 [.ptr F 0,.str mnm,.agg (mfc n vc vs vd)] A (.int .i64 (.ofNat 0)) H4:=by
  refine C.c91.re (by conv=>lhs;reduce) ?_
  simp(maxDischargeDepth:=9)only[auX]
  rw[<-hB]
  simp(maxDischargeDepth:=9)only[auX,z0c c3,z0c c4]
 refine⟨H4,S4,?_,R4,(KK.step hS).mono hN |>.trans st4⟩
 refine C.c39.re (by conv=>lhs;reduce) ?_
 simp(maxDischargeDepth:=9)only[auX]
 rw[<-hA]
 simp(maxDischargeDepth:=9)only[auX,z0c c91]
end
abbrev j4o(n:Nat) :List Nat:=z3m (shd n) []
def crcS(n:Nat) :Nat:=z2j 0 (shd n)
theorem j5y(n:Nat) :crcS n<4294967296:=j39 0 _
def shf(n:Nat) :List (List Nat×Nat):=if n=0 then[]else[(j4o n,41)]
def she(n:Nat) :List Ent:=if n=0 then[]else[(s10,0)]
def shp(n:Nat) :List (List Ent):=if n=0 then[]else[[]]
def z3k(n:Nat) :List (List Nat×List Nat):=(mnm,z1z n (crcS n))::(if n=0 then[]else[(s10,j4o n)])
theorem z2w(n:Nat) :(j4o n).length=41:=by
 unfold j4o z3m
 simp only[List.length_append,z06,z0k,List.flatMap_nil,List.length_nil,List.length_cons]
theorem y82(n:Nat) :z6d (shf n++[(z1z n (crcS n),(z1z n (crcS n)).length)]) (mes (shf n).length)=z3k n:=by
 unfold shf z3k
 split
 .simp[mes,z6d]
 .simp[mes,z6d]
  rw[<-z2w n,List.take_length]
theorem Rd.atK{H:AHeap}{v:AVal}{n:Nat}{cs:List AVal}(h:Rd 1 H v n cs){i:Nat}{x:AVal}(hx:cs[i]? = some x) :∃ b o,z2t 1 v (.int .i64 (.ofNat i))=some (.ptr b o)/\∀ H2,Keep H.nx.toNat H H2->z04 H2 b o=some x:=by
 obtain⟨b,o,h1,_⟩:=h.at1 hx
 refine⟨b,o,h1,fun H2 k=>?_⟩
 obtain⟨_,_,h2,h3⟩:=(h.keep k lr).at1 hx
 rw[h1]at h2
 cases h2
 exact h3
theorem q34{n i:Nat}(h:i<n) :(List.replicate n AVal.snil)[i]? = some .snil:=by rw[List.getElem?_replicate,if_pos h]
theorem k0x(n:Nat)(f:List Nat×Nat) :∀ e∈mes (shf n).length,e.2<(shf n++[f]).length:=by
 unfold shf
 split<;>simp[mes]
structure ButN (N:Nat) (q:Pos) (H H':AHeap) :Prop where
 nx:H.nx.toNat<=H'.nx.toNat
 get:∀ p:Pos,p.toNat<N->p≠q->PT.get p H'.t=PT.get p H.t
section
variable{E:Env}(C:Ck E)
include C
theorem q7u{H:AHeap}{v x:AVal}{n:Nat}(hv:Rd 1 H v (cutL n).length (cutL n))(hx:Rd 1 H x n (List.replicate n .snil))(hn:n<=2000) :∃ w H',z0f E 7 [.int .i64 (.ofNat 1),v,x] H w H'/\z2c H.nx.toNat H' w (z3k n)/\Keep H.nx.toNat H H':=by
 have ne (a b:Pos) (h:a.toNat≠b.toNat) :a≠b:=fun e=>h (congrArg _ e)
 obtain⟨w1,H1,c1,G1,K1⟩:=y7x C hv (by omega)
 have n1:=K1.nx
 obtain⟨F,H2,S2,c2,R2,K2,b2⟩:=y11 C (H:=H1)
 have n2:=K2.nx
 have s2:=fun p hp=>R2.lt p hp
 have KK2:=K1.trans (K2.mono n1)
 obtain⟨H3,hH3⟩ :∃ A,A=(H2.new (.cells [.int .i64 (.ofNat 1),.int .i64 (.ofNat n),v,.snil,.snil] false false)).2:=⟨_,rfl⟩
 have g3:PT.get H2.nx H3.t=some (.cells [.int .i64 (.ofNat 1),.int .i64 (.ofNat n),v,.snil,.snil] false false):=by rw[hH3];exact z0i
 have K3:Keep H2.nx.toNat H2 H3:=by rw[hH3];exact z0d
 have n3:H2.nx.toNat<H3.nx.toNat:=by rw[hH3];exact z0h
 have R3:=R2.keep K3 lr
 have q3:¬ S2 H2.nx:=fun e=>by have:=s2 _ e;omega
 have KK3:=KK2.trans (K3.mono (by omega))
 have sv:=And.intro hv.scal hv.same
 have lv:∀ H2,fLen H2 1 v=some (.int .i64 (.ofNat (cutL n).length)):=fun _=>hv.len
 have lx:∀ H2,fLen H2 1 x=some (.int .i64 (.ofNat n)):=fun _=>hx.len
 suffices hh:∃ r H',z0f E 7 [.int .i64 (.ofNat 1),v,x] H r H'/\(z2c H.nx.toNat H' r (z3k n)/\Keep H.nx.toNat H H')from hh
 refine C.c7.rr (by conv=>lhs;reduce) ?_
 simp(maxDischargeDepth:=9)only[auX,bq,Nat.reduceAdd,zA,lx,z0c c1,z0c c2,ep_p,sv]
 rw[<-hH3]
 refine W.loopI (fun k t H'=>∃ i vs S,i+k=(cutL n).length/\PT.get .h t=some (.int .i64 (.ofNat 1))/\PT.get (.o .h) t=some (v)/\PT.get (.i .h) t=some (x)/\PT.get (.o (.o (.o .h))) t=some (.int .i64 (.ofNat n))/\PT.get (.i (.i (.o .h))) t=some (.ptr F 0)/\PT.get (.o (.o (.i .h))) t=some (.ptr H2.nx 0)/\PT.get (.o (.i (.i .h))) t=some (.int .i64 (.ofNat i))/\PT.get (.i (.o (.i .h))) t=some (.int .i64 (.ofNat (if i=(cutL n).length then n else 0)))/\¬ S H2.nx/\(∀ p,blk vs p->¬ S p)/\(∀ p,S p->H.nx.toNat<=p.toNat)/\PT.get H2.nx H'.t=some (.cells [.int .i64 (.ofNat 1),.int .i64 (.ofNat n),v,vs,.snil] false false)/\H3.nx.toNat<=H'.nx.toNat/\Keep H.nx.toNat H H'/\((k=1/\H'=H3/\vs=.snil/\S=S2)\/(k=0/\RS H' F (shf n) (shp n++[she n]) (cutL n).length (if n=0 then 0 else 4) S/\GO 3 H3.nx.toNat H' vs (cutL n).length (shL n (crcS n))))) ?_ (cutL n).length _ _ ?_
 rotate_left
 .refine⟨0,.snil,S2,by omega,?_⟩
  by_cases h0:n=0
  .subst h0
   refine⟨rfl,rfl,rfl,rfl,rfl,rfl,rfl,rfl,q3,(fun p hp=>by cases hp),fun p hp=>by have:=b2 p hp;omega,g3,lr,KK3,.inr ⟨rfl,R3,GO.nil⟩⟩
  .rw[z60 h0]
   refine⟨rfl,rfl,rfl,rfl,rfl,rfl,rfl,rfl,q3,(fun p hp=>by cases hp),fun p hp=>by have:=b2 p hp;omega,g3,lr,KK3,.inl ⟨rfl,rfl,rfl,rfl⟩⟩
 rintro k t H' ⟨i,vs,S,hi,t0,t1,t2,t7,t10,t11,t13,t12,qS,wS,bS,gS,nS,KS,hor⟩
 rcases hor with⟨rfl,rfl,rfl,rfl⟩ | ⟨rfl,RS',GS'⟩
 .have h0:n≠0:=fun h0=>by subst h0;simp[cutL]at hi
  have hl:=z60 h0
  obtain rfl:i=0:=by omega
  rw[if_neg (by omega)]at t12
  obtain⟨p0,o0,i1,iK⟩:=Rd.atK hv (i:=0) (x:=.int .i64 (.ofNat n)) (by simp[cutL,h0])
  obtain⟨b,q,H4,S4,c4,R4,g4,m4,q4,p4,hbq,Nq,Nb,q4',b4',st4⟩:=y99 C R3 (n:=n) (by omega) (by omega)
  have g4:PT.get q H4.t=some (.cells (WC F s10 25 (crcS n) 0 false) false false):=g4
  have n4:=st4.nx
  have k4:PT.get H2.nx H4.t=some (.cells [.int .i64 (.ofNat 1),.int .i64 (.ofNat n),v,.snil,.snil] false false):=(st4.get _ n3 q3).trans g3
  have qS4:¬ S4 H2.nx:=fun e=>by
   rcases st4.sub _ e with h1 | h1
   .exact q3 h1
   .omega
  have bS4:∀ p,S4 p->H.nx.toNat<=p.toNat:=fun p hp=>by
   rcases st4.sub _ hp with h1 | h1
   .exact bS p h1
   .omega
  obtain⟨H5,S5,c5,R5,st5⟩:=q7y C (N:=H'.nx.toNat) (crc:=crcS n) R4 n4 g4 m4 q4 p4 hbq q4' b4' Nq Nb (j5y n)
  have n5:=st5.nx
  have k5:PT.get H2.nx H5.t=some (.cells [.int .i64 (.ofNat 1),.int .i64 (.ofNat n),v,.snil,.snil] false false):=(st5.get _ n3 qS4).trans k4
  have qS5:¬ S5 H2.nx:=fun e=>by
   rcases st5.sub _ e with h1 | h1
   .exact qS4 h1
   .omega
  have bS5:∀ p,S5 p->H.nx.toNat<=p.toNat:=fun p hp=>by
   rcases st5.sub _ hp with h1 | h1
   .exact bS4 p h1
   .omega
  have KK4:Keep H.nx.toNat H H4:=KS.trans (st4.keep bS (by omega))
  have KK5:Keep H.nx.toNat H H5:=KK4.trans (st5.keep bS4 (by omega))
  obtain⟨H6,hH6⟩ :∃ A,A=(H5.new (.cells [.int .i64 (.ofNat 41),.int .u32 (.ofNat (crcS n)),.int .i64 (.ofNat 0)] false false)).2:=⟨_,rfl⟩
  have g6:PT.get H5.nx H6.t=some (.cells [.int .i64 (.ofNat 41),.int .u32 (.ofNat (crcS n)),.int .i64 (.ofNat 0)] false false):=by rw[hH6];exact z0i
  have K6:Keep H5.nx.toNat H5 H6:=by rw[hH6];exact z0d
  have n6:=K6.nx
  have k6:=(K6.get _ (by omega)).trans k5
  obtain⟨w8,H8,a8,G8,K8,a8f,a8b,_⟩:=z2u (H:=H6) (k:=3) (by':=24) (N:=H'.nx.toNat) (v:=.snil) (n:=0) (cs:=[]) (by omega) GO.nil (by omega) (row:=[.int .i64 (.ofNat 41),.int .u32 (.ofNat (crcS n)),.int .i64 (.ofNat 0)]) rfl rfl (by omega)
  have n8:=K8.nx
  have k8:PT.get H2.nx H8.t=some (.cells [.int .i64 (.ofNat 1),.int .i64 (.ofNat n),v,.snil,.snil] false false):=(K8.get _ (by omega)).trans k6
  have sw:=And.intro G8.1.rd.scal G8.1.rd.same
  have st:=z0z k8 (o:=3) (vs:=[w8]) (by rw[z0p sw.1];rfl) rfl
  have R9:RS (H8.upd H2.nx (.cells [.int .i64 (.ofNat 1),.int .i64 (.ofNat n),v,w8,.snil] false false)) F (shf n) (shp n++[she n]) 1 4 S5:=by
   have e1:shf n=[(j4o n,41)]:=by simp[shf,h0]
   have e2:shp n=[[]]:=by simp[shp,h0]
   have e3:she n=[(s10,0)]:=by simp[she,h0]
   rw[e1,e2,e3]
   refine R5.frame (fun p hp=>?_) (by show _<=H8.nx.toNat;omega)
   have hp5:=R5.lt p hp
   rw[z0a (fun e=>qS5 (by rw[e];exact hp)),a8f _ (by omega) (fun e=>by cases e),K6.get _ hp5]
  have KK6:=KK5.trans (K6.mono (by have:=KK5.nx;omega))
  have KK9:Keep H.nx.toNat H (H8.upd H2.nx (.cells [.int .i64 (.ofNat 1),.int .i64 (.ofNat n),v,w8,.snil] false false)):=⟨by have:=KK6.nx;show _<=H8.nx.toNat;omega,fun p hp=>by rw[z0a (ne _ _ (by omega)),K8.get _ (by omega),KK6.get _ hp]⟩
  have G9:GO 3 H'.nx.toNat (H8.upd H2.nx (.cells [.int .i64 (.ofNat 1),.int .i64 (.ofNat n),v,w8,.snil] false false)) w8 1 (shL n (crcS n)):=by
   have e1:shL n (crcS n)=[]++[.int .i64 (.ofNat 41),.int .u32 (.ofNat (crcS n)),.int .i64 (.ofNat 0)]:=by simp[shL,h0]
   rw[e1]
   exact⟨G8.1.other (fun p hp=>z0a (ne _ _ (by have:=G8.2 p hp;omega))) lr,G8.2⟩
  have w8S:∀ p,blk w8 p->¬ S5 p:=fun p hp e=>by
   have:=a8b p hp
   have:=R5.lt p e
   omega
  subst hH6
  simp only[y7t]at a8
  simp(maxDischargeDepth:=9)only[auX,reduceCtorEq,Nat.reduceAnd,t0,t1,t7,t10,t13,t12,lv,sv,hl,i1,iK _ KS,z0j (q6c C (H:=H')),z0j c4,eq_true (show 0<1 by omega)]
  refine W.loopI (fun k t H5=>∃ j,j+k=n/\H4=H5/\PT.get .h t=some (.int .i64 (.ofNat 1))/\PT.get (.o .h) t=some (v)/\PT.get (.i .h) t=some (x)/\PT.get (.o (.o (.o .h))) t=some (.int .i64 (.ofNat n))/\PT.get (.i (.i (.o .h))) t=some (.ptr F 0)/\PT.get (.o (.o (.i .h))) t=some (.ptr H2.nx 0)/\PT.get (.o (.i (.i .h))) t=some (.int .i64 (.ofNat 0))/\PT.get (.i (.i (.i .h))) t=some (.ptr b 0)/\PT.get (.i (.o (.o (.o .h)))) t=some (.int .i64 (.ofNat j))) ?_ n _ _ ?_
  rotate_left
  .exact⟨0,by omega,rfl,by simp(maxDischargeDepth:=9)only[auX,t0],by simp(maxDischargeDepth:=9)only[auX,t1],by simp(maxDischargeDepth:=9)only[auX,t2],by simp(maxDischargeDepth:=9)only[auX,t7],by simp(maxDischargeDepth:=9)only[auX,t10],by simp(maxDischargeDepth:=9)only[auX,t11],by simp(maxDischargeDepth:=9)only[auX,t13],by simp(maxDischargeDepth:=9)only[auX],by simp(maxDischargeDepth:=9)only[auX]⟩
  rintro k t H5' ⟨j,hj,rfl,t0,t1,t2,t7,t10,t11,t13,t14,t16⟩
  by_cases hk:k=0
  .simp(maxDischargeDepth:=9)only[auX,↓reduceIte,Nat.reduceAdd,zA,t0,t1,t2,t7,t10,t11,t13,t14,t16,i1,iK _ KK4,eq_false (show ¬ j<n by omega),z0c c5,hl_g k6,z0r a8,sw,st,iK _ KK9,z0o (i:=0) (k:=1) (by omega)]
   refine⟨0,by omega,1,w8,S5,by omega,rfl,by rw[if_pos rfl],qS5,w8S,bS5,rfl,by omega,KK9,.inr ⟨rfl,?_,G9⟩⟩
   rw[if_neg h0]
   exact R9
  .obtain⟨p1,o1,j1,j2⟩:=Rd.atK hx (q34 (show j<n by omega))
   simp(maxDischargeDepth:=9)only[auX,Nat.reduceLT,t0,t1,t2,t7,t10,t11,t13,t14,t16,i1,iK _ KK4,j1,j2 _ KK4,eq_true (show j<n by omega),z0o (i:=j) (k:=1) (by omega)]
   exact⟨k-1,by omega,j+1,by omega,rfl⟩
 .have sorry1:i=(cutL n).length:=by omega
  subst sorry1
  simp(maxDischargeDepth:=9)only[auX,↓reduceIte,t1,t13,lv,eq_false (Nat.lt_irrefl (cutL n).length)]
  refine W.loopI (fun k t H6=>∃ i vd,i+k=n/\PT.get .h t=some (.int .i64 (.ofNat 1))/\PT.get (.o .h) t=some (v)/\PT.get (.i .h) t=some (x)/\PT.get (.o (.o (.o .h))) t=some (.int .i64 (.ofNat n))/\PT.get (.i (.i (.o .h))) t=some (.ptr F 0)/\PT.get (.o (.o (.i .h))) t=some (.ptr H2.nx 0)/\PT.get (.o (.o (.i (.o .h)))) t=some (.int .i64 (.ofNat i))/\ButN H'.nx.toNat H2.nx H' H6/\GO 1 H'.nx.toNat H6 vd i (zs i)/\PT.get H2.nx H6.t=some (.cells [.int .i64 (.ofNat 1),.int .i64 (.ofNat n),v,vs,vd] false false)) ?_ n _ _ ?_
  rotate_left
  .refine⟨0,.snil,by omega,?_⟩
   simp(maxDischargeDepth:=9)only[auX,t0,t1,t2,t7,t10,t11]
   exact⟨⟨lr,fun _ _ _=>rfl⟩,GO.nil,gS⟩
  rintro k t H6 ⟨i,vd,hi,t0,t1,t2,t7,t10,t11,t19,B6,G6,g6⟩
  have n6:=B6.nx
  have K6:Keep H.nx.toNat H H6:=⟨by have:=KS.nx;omega,fun p hp=>by rw[B6.get p (by have:=KS.nx;omega) (ne _ _ (by omega)),KS.get p hp]⟩
  by_cases hk:k=0
  .obtain rfl:i=n:=by omega
   have sS:=fun p hp=>RS'.lt p hp
   have M6:Mf H6 v vs vd i (crcS i):=⟨hv.keep K6 lr,(GS'.1.other (fun p hp=>B6.get p (GS'.1.rd.blk_lt p hp) (ne _ _ (by have:=GS'.2 p hp;omega))) n6).rd,G6.1.rd⟩
   have R6:=RS'.frame (fun p hp=>B6.get p (sS p hp) (fun e=>qS (by rw[<-e];exact hp))) n6
   obtain⟨H7,S7,c7,R7,st7⟩:=z84 C (N:=H6.nx.toNat) R6 lr (by unfold she;split<;>simp) (by unfold shp;split<;>simp) (by unfold shf;split<;>simp) (by unfold cutL;split<;>simp) (by split<;>omega)
   have n7:=st7.nx
   have bS7:∀ p,S7 p->H.nx.toNat<=p.toNat:=fun p hp=>by
    rcases st7.sub p hp with h1 | h1
    .exact bS p h1
    .have:=KS.nx;omega
   have M7:Mf H7 v vs vd i (crcS i):=by
    refine⟨M6.c.other (fun p hp=>st7.get p (M6.c.blk_lt p hp) (fun e=>?_)) n7,M6.s.other (fun p hp=>st7.get p (M6.s.blk_lt p hp) (wS p hp)) n7,M6.d.other (fun p hp=>st7.get p (M6.d.blk_lt p hp) (fun e=>?_)) n7⟩
    .have:=bS p e;have:=hv.blk_lt p hp;omega
    .have:=sS p e;have:=G6.2 p hp;omega
   have g7:PT.get H2.nx H7.t=some (.cells [.int .i64 (.ofNat 1),.int .i64 (.ofNat i),v,vs,vd] false false):=(st7.get _ (by omega) qS).trans g6
   have hcs:(shf i=[]/\she i=[])\/∃ f,f.1.length<=1000000/\shf i=[f]/\she i=[(s10,0)]:=by
    unfold shf she
    split
    .exact .inl ⟨rfl,rfl⟩
    .exact .inr ⟨_,by rw[z2w];omega,rfl,rfl⟩
   obtain⟨H8,S8,c8,R8,st8⟩:=q9r C (N:=H.nx.toNat) R7 (by have:=KS.nx;omega) (by split<;>omega) hcs M7 hn (j5y i)
   have ml:=z1q i (crcS i) hn
   obtain⟨w9,H9,c9,F9,K9⟩:=j9p C R8 (by unfold mes;split<;>simp) (by
    intro f hf
    rcases List.mem_append.1 hf with hf | hf
    .unfold shf at hf
     split at hf
     .cases hf
     .obtain rfl:f=_:=List.mem_singleton.1 hf
      exact⟨by rw[z2w];omega,by rw[z2w];omega⟩
    .obtain rfl:f=_:=List.mem_singleton.1 hf
     exact⟨ml,lr⟩) (k0x i _)
   rw[y82]at F9
   have s6:=M7.sc
   simp(maxDischargeDepth:=9)only[auX,↓reduceIte,t7,t10,t11,t19,eq_false (Nat.lt_irrefl i),z0c c7,hn_g g7,z0c c8,z0c c9]
   exact⟨F9.mono (by have:=K6.nx;have:=st8.nx;omega),((K6.trans (st7.keep bS (by have:=KS.nx;omega))).trans (st8.keep bS7 lr)).trans (K9.mono (by have:=K6.nx;have:=st8.nx;omega))⟩
  .obtain⟨p1,o1,j1,j2⟩:=Rd.atK hx (q34 (show i<n by omega))
   obtain⟨w7,H7,a7,G7,K7⟩:=z4q (by':=8) (by omega) G6 n6 (row:=[.int .i64 (.ofNat 0)]) rfl rfl (by omega)
   have n7:=K7.nx
   have g6':PT.get H2.nx (H6.new (.cells [.int .i64 (.ofNat 0)] false false)).2.t=some (.cells [.int .i64 (.ofNat 1),.int .i64 (.ofNat n),v,vs,vd] false false):=(z0d.get _ (by omega)).trans g6
   have g7:PT.get H2.nx H7.t=some (.cells [.int .i64 (.ofNat 1),.int .i64 (.ofNat n),v,vs,vd] false false):=(K7.get _ (by omega)).trans g6
   have sw:=And.intro G7.1.rd.scal G7.1.rd.same
   have sd:=And.intro G6.1.rd.scal G6.1.rd.same
   have st:=z0z g7 (o:=4) (vs:=[w7]) (by rw[z0p sw.1];rfl) rfl
   simp(maxDischargeDepth:=9)only[auX,reduceCtorEq,zA,Nat.reduceAnd,t0,t1,t2,t7,t10,t11,t19,j1,j2 _ K6,hl_g g6,sw,z16 a7,st,eq_true (show i<n by omega),z0o (i:=i) (k:=1) (by omega)]
   refine⟨k-1,by omega,i+1,w7,by omega,rfl,⟨by show _<=H7.nx.toNat;omega,fun p hp hq=>by rw[z0a (Ne.symm hq),K7.get p (by omega),B6.get p hp hq]⟩,?_,rfl⟩
   have e:zs (i+1)=zs i++[.int .i64 (.ofNat 0)]:=by simp[zs,List.replicate_succ']
   rw[e]
   exact⟨G7.1.other (fun p hp=>z0a (ne _ _ (by have:=G7.2 p hp;omega))) lr,G7.2⟩
end
abbrev zcs(zs:List Int) :List AVal:=zs.map fun z=>.int .i64 z
def good(zs:List Int) :Bool:=zs.all fun z=>match z with
 | .ofNat a=>Nat.blt a zs.length
 | .negSucc _=>false
def toN(zs:List Int) :List Nat:=zs.map Int.toNat
theorem q44{zs:List Int}(h:good zs=true) :zcs zs=ics (toN zs)/\(toN zs).length=zs.length/\∀ x∈toN zs,x<(toN zs).length:=by
 have hl:(toN zs).length=zs.length:=by simp[toN]
 refine⟨?_,hl,fun x hx=>?_⟩
 .unfold zcs ics toN
  rw[List.map_map]
  refine List.map_congr_left fun z hz=>?_
  have:=List.all_eq_true.1 h z hz
  cases z with
  | ofNat a=>rfl
  | negSucc a=>cases this
 .rw[hl]
  obtain⟨z,hz,rfl⟩:=List.mem_map.1 hx
  have:=List.all_eq_true.1 h z hz
  cases z with
  | ofNat a=>exact Nat.blt_eq.mp this
  | negSucc a=>cases this
abbrev cnm:List Nat:=[99,111,114,101,46,49]
theorem nm_c:IsNm cnm:=⟨by decide,by decide,q1j (by decide)⟩
theorem k2x:IsNm ([116,46]++cnm):=⟨by decide,by decide,q1j (by decide)⟩
abbrev j52(xs:List Nat) :List Nat:=b4 1++b4 xs.length++b4 (gmx xs)
abbrev z70(xs:List Nat) :List (List Nat):=z5c xs ((xs.length+199)/200)
def y40(xs:List Nat) :List Nat:=z3m (j52 xs) (z70 xs)
def y3a(zs:List Int) :List (List Nat×List Nat):=if good zs then[(cnm,y40 (toN zs))]else[]
theorem y27(xs:List Nat) :∀ d∈z70 xs,d.length<=800:=fun d hd=>by
 obtain⟨k,_,rfl⟩:=List.mem_map.1 hd
 have:=y1w xs k 200
 rw[q4g (.inl rfl)]at this
 exact this
theorem z8w(xs:List Nat) :(z70 xs).length=(xs.length+199)/200:=by simp[z5c]
theorem j8j(xs:List Nat)(h:xs.length<=2000) :(y40 xs).length<=10000:=by
 unfold y40 z3m
 have h1:=z8w xs
 have h2:=j2b (f:=fenc 2) (M:=812) (l:=z70 xs) (fun a ha=>by have:=y27 xs a ha;rw[z06];omega)
 simp only[List.length_append,z06,z0k]at h2 ⊢
 omega
theorem j3q(m k:Nat) :z0l .lss (.int .i64 (.negSucc m)) (.int .i64 (.ofNat k))=some (.bool true):=rfl
section
variable{E:Env}(C:Ck E)
include C
theorem y25{H:AHeap}{v:AVal}{zs:List Int}(h:Rd 1 H v zs.length (zcs zs))(hl:zs.length<=1000000)(hg:good zs=false) :z0f E 42 [.int .i64 (.ofNat 1),v] H (.tup [.snil,.snil,.int .i64 (.ofNat 191)]) H:=by
 suffices hh:∃ r H',z0f E 42 [.int .i64 (.ofNat 1),v] H r H'/\(r=.tup [.snil,.snil,.int .i64 (.ofNat 191)]/\H'=H)from by
  obtain⟨_,_,hc,rfl,rfl⟩:=hh
  exact hc
 refine C.c42.rr (by conv=>lhs;reduce) ?_
 simp(maxDischargeDepth:=9)only[auX,bq,Nat.reduceLT,h.len,eq_false (show ¬ 16777216<zs.length by omega)]
 refine W.loopI (fun k t H'=>H'=H/\∃ i,i+k=zs.length/\(∀ j (hj:j<zs.length),j<i->∃ a,zs[j]=.ofNat a/\a<zs.length)/\PT.get .h t=some (.int .i64 (.ofNat 1))/\PT.get (.o .h) t=some (v)/\PT.get (.o (.o (.o .h))) t=some (.int .i64 (.ofNat i))) ?_ zs.length _ _ ⟨rfl,0,by omega,fun j _ hj=>by omega,rfl,rfl,rfl⟩
 rintro k t H' ⟨rfl,i,hi,hj,t0,t1,t7⟩
 by_cases hk:0<k
 .have hi2:i<zs.length:=by omega
  obtain⟨b,o,i1,i2⟩:=Rd.at1 h (i:=i) (x:=.int .i64 zs[i]) (by simp[hi2])
  cases hz:zs[i]with
  | negSucc m =>
   rw[hz]at i2
   simp(maxDischargeDepth:=9)only[auX,t1,t7,h.len,hi2,i1,i2,j3q]
  | ofNat a =>
   rw[hz]at i2
   by_cases ha:a<zs.length
   .simp(maxDischargeDepth:=9)only[auX,bq,t0,t1,t7,h.len,hi2,i1,i2,eq_false (Nat.not_lt_zero a),eq_false (show ¬ zs.length<=a by omega),z0o (i:=i) (k:=1) (by omega)]
    refine⟨k-1,by omega,i+1,by omega,fun j h1 h2=>?_,rfl⟩
    by_cases e:j=i
    .subst e;exact⟨a,hz,ha⟩
    .exact hj j h1 (by omega)
   .simp(maxDischargeDepth:=9)only[auX,bq,t1,t7,h.len,hi2,i1,i2,eq_false (Nat.not_lt_zero a),eq_true (show zs.length<=a by omega)]
 .exfalso
  have:good zs=true:=by
   unfold good
   rw[List.all_eq_true]
   intro z hz
   obtain⟨j,h1,rfl⟩:=List.mem_iff_getElem.1 hz
   obtain⟨a,e,ha⟩:=hj j h1 (by omega)
   rw[e]
   exact Nat.blt_eq.mpr ha
  rw[hg]at this
  cases this
theorem q2x{H:AHeap}{v:AVal}{zs:List Int}(h:Rd 1 H v zs.length (zcs zs))(hl:zs.length<=2000) :∃ w H',z0f E 10 [.int .i64 (.ofNat 1),v] H w H'/\z5l H' w (y3a zs)/\Keep H.nx.toNat H H':=by
 cases hg:good zs with
 | false =>
  obtain⟨F,H2,S2,c2,R2,K2,b2⟩:=y11 C (H:=H)
  refine⟨.snil,H2,?_,?_,K2⟩
  .refine C.c10.re (by conv=>lhs;reduce) ?_
   simp(maxDischargeDepth:=9)only[auX,reduceCtorEq,z0c (y25 C h (by omega) hg),z0c c2]
  .unfold y3a
   rw[hg]
   exact⟨[],rfl,⟨rfl,.inl ⟨rfl,rfl⟩⟩,fun f hf=>by cases hf⟩
 | true =>
  obtain⟨e1,e2,e3⟩:=q44 hg
  rw[e1,<-e2]at h
  obtain⟨w1,l1,H1,c1,B1,L1,K1⟩:=q5c C h (by omega) e3
  have n1:=K1.nx
  obtain⟨F,H2,S2,c2,R2,K2,b2⟩:=y11 C (H:=H1)
  have n2:=K2.nx
  have b1:=B1.keep K2 lr
  have L2:=L1.keep K2 lr
  have cl:=y27 (toN zs)
  have fl:=j8j (toN zs) (by omega)
  have fl2:(z3m (j52 (toN zs)) (z70 (toN zs))).length<=1000000:=by unfold y40 at fl;omega
  have hlr:LRS S2 H2 l1 (z70 (toN zs)):=by
   obtain⟨ys,y1,y2,y3⟩:=L1
   have hb:∀ p,p.toNat<H1.nx.toNat->¬ S2 p:=fun p hp e=>by have:=b2 p e;omega
   exact⟨ys,y1,(y2.1.rd).keep K2 lr,fun p hp=>hb p (y2.1.rd.blk_lt p hp),fun z hz=>⟨(y3 z hz).1.by.keep K2 lr,fun p hp=>hb p ((y3 z hz).1.by.1.blk_lt p hp)⟩⟩
  obtain⟨H3,S3,c3,R3,st3⟩:=j1r C (N:=H2.nx.toNat) R2 lr (y1j (by omega)) (by omega) k2x nm_c (j:=0) (es2:=[([116,46]++cnm,0)]) (es3:=[(cnm,0)]) (by decide) (by decide) (by decide) ⟨by simp,by simp,by simp,by simp,by simp,by omega,by omega⟩ (by decide) ⟨by decide,by decide⟩ (by decide) b1.by (fun z hz e=>by have:=B1.by.1.blk_lt z hz;have:=b2 z e;omega) (by simp[z0k]) hlr (fun d hd=>by have:=cl d hd;omega) (by rw[z8w];omega) fl2
  obtain⟨w4,H4,c4,F4,K4⟩:=j9p C R3 (by simp) (by
   intro f hf
   obtain rfl:f=_:=List.mem_singleton.1 hf
   exact⟨fl2,lr⟩) (by simp)
  have n3:=st3.nx
  have bs:=b1.by.sc
  have ls:=L2.sc
  refine⟨w4,H4,?_,?_,((K1.trans (K2.mono n1)).trans (st3.keep (fun p hp=>by have:=b2 p hp;omega) (by omega))).trans (K4.mono (by omega))⟩
  .refine C.c10.re (by conv=>lhs;reduce) ?_
   simp(maxDischargeDepth:=9)only[auX,bq,z0c c1,z0c c2,ep_p,z0c (j9i C (H:=H2)),z0c c3,z0c c4]
  .unfold y3a
   rw[hg]
   have:z6d ([]++[(z3m (j52 (toN zs)) (z70 (toN zs)),(z3m (j52 (toN zs)) (z70 (toN zs))).length)]) [(cnm,0)]=[(cnm,y40 (toN zs))]:=by
    simp[z6d,y40]
   rw[this]at F4
   exact F4.r
end
theorem k1h(a b:Int) :z0l .eql (.int .i64 a) (.int .i64 b)=some (.bool (decide (a=b))):=by
 show some (AVal.bool (eqI a b))=_
 rw[j2h]
theorem z38(a:Nat){n:Nat}(h:0<n) :z0l .rem (.int .i64 (.ofNat a)) (.int .i64 (.ofNat n))=some (.int .i64 (.ofNat (a%n))):=by
 cases n with
 | zero=>omega
 | succ n=>rfl
theorem q7i(z:Int){n:Nat}(h0:0<n)(h1:n<=1000000) :∃ r s a,z0l .rem (.int .i64 z) (.int .i64 (.ofNat n))=some (.int .i64 r)/\z0l .add (.int .i64 r) (.int .i64 (.ofNat n))=some (.int .i64 (.ofNat s))/\z0l .rem (.int .i64 (.ofNat s)) (.int .i64 (.ofNat n))=some (.int .i64 (.ofNat a))/\a<n:=by
 cases z with
 | ofNat x =>
  have:=Nat.mod_lt x h0
  exact⟨_,_,_,z38 x h0,z0o (by omega),z38 _ h0,Nat.mod_lt _ h0⟩
 | negSucc m =>
  have e:z0l .rem (.int .i64 (.negSucc m)) (.int .i64 (.ofNat n))=some (.int .i64 (Int.negOfNat ((m+1)%n))):=by
   cases n with
   | zero=>omega
   | succ n=>rfl
  cases hc:(m+1)%n with
  | zero =>
   rw[hc]at e
   exact⟨.ofNat 0,0+n,_,e,z0o (by omega),z38 _ h0,Nat.mod_lt _ h0⟩
  | succ d =>
   have hd:=Nat.mod_lt (m+1) h0
   rw[hc]at e hd
   refine⟨.negSucc d,n-(d+1),_,e,?_,z38 _ h0,Nat.mod_lt _ h0⟩
   show some (AVal.int .i64 (z1n .i64 (Int.subNatNat n (d+1))))=_
   rw[Int.subNatNat_of_le (by omega)]
   show some (AVal.int .i64 (z1n .i64 (.ofNat (n-(d+1)))))=_
   rw[j00 (by omega)]
theorem Bo.put{N:Nat}{H:AHeap}{v:AVal}{us:List Nat}(h:Bo N H v us){a y:Nat}(ha:a<us.length)(hy:y<256) :∃ b op,z2t 1 v (.int .i64 (.ofNat a))=some (.ptr b a)/\N<=b.toNat/\z04 H b a=some (.int .u8 (.ofNat us[a]))/\z05 H b a [.int .u8 (.ofNat y)]=some (H.upd b (.cells (z0b (us.set a y)) op false))/\Bo N (H.upd b (.cells (z0b (us.set a y)) op false)) v (us.set a y)/\∀ p,blk v p↔p=b:=by
 obtain⟨b,o,i1,i2⟩:=h.by.at ha
 obtain⟨⟨⟨h0,h1⟩,hN⟩,hu⟩:=h
 rcases h1 with⟨rfl,h1⟩ | ⟨b',z,op,rfl,hg,hz,hb⟩
 .omega
 .have e:z2t 1 (.sl b' 0 us.length us.length z) (.int .i64 (.ofNat a))=some (.ptr b' a):=by
   show(match Nat.blt a us.length with | true=>some (AVal.ptr b' (Nat.add 0 (Nat.mul a 1))) | false=>none)=_
   rw[y41 ha]
   show some (AVal.ptr b' (0+a*1))=_
   rw[Nat.zero_add,Nat.mul_one]
  rw[e]at i1
  cases i1
  have hl:(z0b us).length=us.length:=z1d us
  have hs:∀ (l:List Nat) (i y:Nat),(z0b l).set i (.int .u8 (.ofNat y))=z0b (l.set i y):=by
   intro l
   induction l with
   | nil=>intro i y;rfl
   | cons x l ih =>
    intro i y
    cases i with
    | zero=>rfl
    | succ i=>simp only[z0b,List.set_cons_succ,ih]
  have hp:lput (z0b us) a [.int .u8 (.ofNat y)]=some (z0b (us.set a y)):=by
   rw[z36 _ _ _ (by rw[hl];exact ha),<-hs,List.set_eq_take_append_cons_drop,if_pos (by rw[hl];exact ha)]
   simp
  refine⟨b,op,e,hN b rfl,i2,?_,⟨⟨⟨by rw[List.length_set,z1d,List.length_set];omega,.inr ⟨b,z,op,by rw[List.length_set],z0q,hz,hb⟩⟩,hN⟩,fun u hu'=>?_⟩,fun p=>Iff.rfl⟩
  .rw[z0z hg rfl (by rw[hp];rfl),hp]
   rfl
  .rcases List.mem_or_eq_of_mem_set hu' with h | h
   .exact hu u h
   .omega
section
variable{E:Env}(C:Ck E)
include C
theorem k1s{H:AHeap}{n:Nat}(hn:n<=2000) :∃ w H',z0f E 8 [.int .i64 (.ofNat n),.snil] H w H'/\GO 1 H.nx.toNat H' w (cutL n).length (cutL n)/\Keep H.nx.toNat H H':=by
 by_cases h0:n=0
 .subst h0
  refine⟨.snil,H,?_,GO.nil,Keep.refl _ _⟩
  suffices hh:∃ r H2,z0f E 8 [.int .i64 (.ofNat 0),.snil] H r H2/\(r=.snil/\H2=H)from by
   obtain⟨_,_,hc,rfl,rfl⟩:=hh
   exact hc
  refine C.c8.rr (by conv=>lhs;reduce) ?_
  simp(maxDischargeDepth:=9)only[auX]
  refine W.loopI (fun k t H2=>H2=H/\PT.get .h t=some (.int .i64 (.ofNat 0))/\PT.get (.o .h) t=some (.snil)/\PT.get (.o (.i .h)) t=some (.snil)/\PT.get (.i (.i .h)) t=some (.int .i64 (.ofNat 0))/\PT.get (.o (.o (.o .h))) t=some (.int .i64 (.ofNat 0))) ?_ 0 _ _ ⟨rfl,rfl,rfl,rfl,rfl,rfl⟩
  rintro k t H2 ⟨rfl,t0,t1,t5,t6,t7⟩
  simp(maxDischargeDepth:=9)only[auX,↓reduceIte,t0,t1,t5,t6,t7,eq_false (Nat.lt_irrefl 0)]
 .have e:cutL n=[.int .i64 (.ofNat n)]:=by simp[cutL,h0]
  rw[e]
  obtain⟨w,H',a,G,K⟩:=z4q (H:=H) (k:=1) (by':=8) (N:=H.nx.toNat) (v:=.snil) (n:=0) (cs:=[]) (by omega) GO.nil lr (row:=[.int .i64 (.ofNat n)]) rfl rfl (by omega)
  refine⟨w,H',?_,G,K⟩
  have sw:=And.intro G.1.rd.scal G.1.rd.same
  suffices hh:∃ r H2,z0f E 8 [.int .i64 (.ofNat n),.snil] H r H2/\(r=w/\H2=H')from by
   obtain⟨_,_,hc,rfl,rfl⟩:=hh
   exact hc
  refine C.c8.rr (by conv=>lhs;reduce) ?_
  simp(maxDischargeDepth:=9)only[auX]
  refine W.loopI (fun k t H2=>H2=H/\PT.get .h t=some (.int .i64 (.ofNat n))/\PT.get (.o .h) t=some (.snil)/\PT.get (.o (.i .h)) t=some (.snil)/\PT.get (.i (.i .h)) t=some (.int .i64 (.ofNat 0))/\PT.get (.o (.o (.o .h))) t=some (.int .i64 (.ofNat 0))) ?_ 0 _ _ ⟨rfl,rfl,rfl,rfl,rfl,rfl⟩
  rintro k t H2 ⟨rfl,t0,t1,t5,t6,t7⟩
  simp(maxDischargeDepth:=9)only[auX,↓reduceIte,t0,t1,t5,t6,t7,eq_false (Nat.lt_irrefl 0),eq_true (show 0<n by omega),z0r a]
theorem q2j{H:AHeap}{v:AVal}{us nm:List Nat}(h:By H v us)(hl:us.length<=1000000) :∃ w H',z0f E 93 [.agg [.str nm,v]] H (.agg [.str nm,w]) H'/\Bo H.nx.toNat H' w us/\Keep H.nx.toNat H H':=by
 obtain⟨B,hB⟩ :∃ B,B=((H.new (.cells [.str nm,v] false false)).2.new (.cells [.str [],.snil] false false)).2:=⟨_,rfl⟩
 have kB:Keep H.nx.toNat H B:=by rw[hB];exact z0d.trans (z0d.mono (Nat.le_of_lt z0h))
 have nB:B.nx.toNat=H.nx.toNat+2:=by rw[hB];show H.nx.succ.succ.toNat=_;rw[Pos.toNat_succ,Pos.toNat_succ]
 have s1:H.nx.succ.toNat=H.nx.toNat+1:=Pos.toNat_succ _
 have g1:PT.get H.nx B.t=some (.cells [.str nm,v] false false):=by
  rw[hB]
  exact((z0d (H:=(H.new (.cells [.str nm,v] false false)).2)).get H.nx z0h).trans z0i
 have g2:PT.get H.nx.succ B.t=some (.cells [.str [],.snil] false false):=by
  rw[hB]
  exact z0i (H:=(H.new (.cells [.str nm,v] false false)).2)
 obtain⟨w,H',c,G,K⟩:=z62 C (h.keep kB lr).1 (by omega)
 have g3:=(K.get H.nx (by omega)).trans g1
 have g4:=(K.get H.nx.succ (by omega)).trans g2
 have sc:=h.sc
 have sw:=And.intro G.1.rd.scal G.1.rd.same
 have st:=z0z g4 (o:=0) (vs:=[.str nm,w]) (by rw[z0p rfl,z0p sw.1];rfl) rfl
 have Bw:Bo H.nx.toNat (H'.upd H.nx.succ (.cells [.str nm,w] false false)) w us:=⟨⟨G.1.other (fun p hp=>z0a (fun e=>by have:=G.2 p hp;rw[<-e]at this;omega)) lr,fun p hp=>by have:=G.2 p hp;omega⟩,h.2⟩
 refine⟨w,H'.upd H.nx.succ (.cells [.str nm,w] false false),?_,Bw,(kB.trans (K.mono (by omega))).trans (z0s (by omega))⟩
 refine C.c93.re (by conv=>lhs;reduce) ?_
 simp(maxDischargeDepth:=9)only[auX,zA,aZ]
 rw[<-hB]
 simp(maxDischargeDepth:=9)only[auX,reduceCtorEq,Nat.reduceAdd,zA,aZ,Nat.reduceAnd,hl_g g3,z0j c,sw,st]
end
end Go.Am
