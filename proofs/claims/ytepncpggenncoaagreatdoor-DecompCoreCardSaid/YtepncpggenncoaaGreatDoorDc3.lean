import Derived.Test.YtepncpggenncoaaGreatDoorDc2
set_option linter.unusedSimpArgs false
set_option linter.unusedVariables false
set_option maxRecDepth 20000
set_option maxHeartbeats 8000000
namespace Go.Am
open Go Go.Proofs
theorem q2n(es:List Ent)(e:Ent) :ent (es++[e])=ent es++[.str e.1,.int .i64 (.ofNat e.2)]:=by simp[ent]
def insB(nm:List Nat)(e:Ent)(done:Bool) :Bool:=!done && (z5a nm e.1 || z14 nm e.1)
def wgo(nm:List Nat)(f:Nat) :List Ent->Bool->List Ent
 | [],done=>if done then[]else[(nm,f)]
 | e::l,done=>(if insB nm e done then[(nm,f)]else[])++((if e.1=nm then[]else[e])++wgo nm f l (done || insB nm e done))
section
variable{nm:List Nat}{f:Nat}{e:Ent}{l:List Ent}
theorem q8s(hx:(z5a nm e.1 || z14 nm e.1)=false)(he:e.1=nm) :wgo nm f (e::l) false=wgo nm f l false:=by simp only[wgo,insB,hx,eq_true he,Bool.not_false,Bool.true_and,Bool.false_or,if_true,if_false,Bool.false_eq_true,List.nil_append]
theorem q8r(hx:(z5a nm e.1 || z14 nm e.1)=false)(he:¬ e.1=nm) :wgo nm f (e::l) false=e::wgo nm f l false:=by simp only[wgo,insB,hx,he,Bool.not_false,Bool.true_and,Bool.false_or,if_false,Bool.false_eq_true,List.nil_append,List.cons_append]
theorem q8q(hx:(z5a nm e.1 || z14 nm e.1)=true)(he:e.1=nm) :wgo nm f (e::l) false=(nm,f)::wgo nm f l true:=by simp only[wgo,insB,hx,eq_true he,Bool.not_false,Bool.true_and,Bool.false_or,if_true,List.nil_append,List.cons_append]
theorem q8p(hx:(z5a nm e.1 || z14 nm e.1)=true)(he:¬ e.1=nm) :wgo nm f (e::l) false=(nm,f)::e::wgo nm f l true:=by simp only[wgo,insB,hx,he,Bool.not_false,Bool.true_and,Bool.false_or,if_true,if_false,List.nil_append,List.cons_append]
theorem q8o(he:e.1=nm) :wgo nm f (e::l) true=wgo nm f l true:=by simp only[wgo,insB,eq_true he,Bool.not_true,Bool.false_and,Bool.true_or,if_true,if_false,Bool.false_eq_true,List.nil_append]
theorem q8n(he:¬ e.1=nm) :wgo nm f (e::l) true=e::wgo nm f l true:=by simp only[wgo,insB,he,Bool.not_true,Bool.false_and,Bool.true_or,if_false,Bool.false_eq_true,List.nil_append,List.cons_append]
end
def z1k(es:List Ent)(f:Nat)(nm:List Nat) :List Ent:=if nm=[]then es.filter (fun e=>e.2≠f)else wgo nm f (es.filter fun e=>e.2≠f) false
abbrev GD(N:Nat)(H:AHeap)(v:AVal)(es:List Ent) :Prop:=GO 2 N H v es.length (ent es)
theorem GD.snoc{N:Nat}{H:AHeap}{v:AVal}{es:List Ent}{e:Ent}(h:GO 2 N H v (es.length+1) (ent es++[.str e.1,.int .i64 (.ofNat e.2)])) :GD N H v (es++[e]):=by
 unfold GD
 rw[q2n,List.length_append]
 exact h
theorem j1k{N:Nat}{H:AHeap}{v:AVal}{es:List Ent}(h:GD N H v es)(hN:N<=H.nx.toNat)(hl:es.length<=1000000)(a:List Nat)(f:Nat) :∃ w H',z09 (H.new (.cells [.str a,.int .i64 (.ofNat f)] false false)).2 2 24 v (.sl H.nx 0 1 1 0)=some (w,H')/\GD N H' w (es++[(a,f)])/\Keep N H H':=by
 obtain⟨w,H',e1,e2,e3⟩:=z4q (by':=24) (by omega) h hN (row:=[.str a,.int .i64 (.ofNat f)]) rfl rfl (by omega)
 exact⟨w,H',e1,GD.snoc e2,e3⟩
section
variable{E:Env}(C:Ck E)
include C
theorem q8m{H:AHeap}{v:AVal}{es:List Ent}(h:DirR H v es)(hl:es.length<=100000)(nm:List Nat)(f:Nat) :∃ w H',z0f E 203 [v,.str nm,.int .i64 (.ofNat f)] H w H'/\GD H.nx.toNat H' w (wgo nm f es false)/\Keep H.nx.toNat H H':=by
 refine C.c203.rr (by conv=>lhs;reduce) ?_
 simp(maxDischargeDepth:=9)only[auX]
 refine W.loopI (fun k t H'=>∃ i l done acc,i+k=es.length/\PT.get .h t=some (v)/\PT.get (.o .h) t=some (.str nm)/\PT.get (.i .h) t=some (.int .i64 (.ofNat f))/\PT.get (.o (.o (.o .h))) t=some (l)/\PT.get (.i (.o (.o .h))) t=some (.bool done)/\PT.get (.o (.i (.o .h))) t=some (.int .i64 (.ofNat i))/\GD H.nx.toNat H' l acc/\acc.length<=2*i/\acc++wgo nm f (es.drop i) done=wgo nm f es false/\Keep H.nx.toNat H H') ?_ es.length _ _ ⟨0,.snil,false,[],by omega,rfl,rfl,rfl,rfl,rfl,rfl,GO.nil,by simp,rfl,Keep.refl _ _⟩
 rintro k t H' ⟨i,l,done,acc,hi,g0,g1,g2,g7,g8,g9,hG,ha,hw,hK⟩
 have h':=h.keep hK lr
 by_cases hk:k=0
 .rw[List.drop_eq_nil_of_le (by omega)]at hw
  cases done
  .obtain⟨w1,H1,a1,G1,K1⟩:=j1k hG hK.nx (by omega) nm f
   simp(maxDischargeDepth:=9)only[auX,↓reduceIte,Nat.reduceAdd,zA,g0,g1,g2,g7,g8,g9,Rd.len h',show ¬ i<es.length by omega,z0r a1]
   rw[<-hw]
   exact⟨G1,hK.trans K1⟩
  .simp(maxDischargeDepth:=9)only[auX,↓reduceIte,g0,g7,g8,g9,Rd.len h',show ¬ i<es.length by omega]
   rw[<-hw]
   simp only[wgo,if_true,List.append_nil]
   exact⟨hG,hK⟩
 .have hi2:i<es.length:=by omega
  obtain⟨b,o,e1,st⟩:=h.atS hi2
  obtain⟨e2,e3,_⟩:=st _ hK
  rw[List.drop_eq_getElem_cons hi2]at hw
  have hn2:z14 es[i].1 nm=decide (es[i].1=nm):=z1j _ _
  have fin:∀ (w:AVal) (H2:AHeap) (acc2:List Ent) (d2:Bool),GD H.nx.toNat H2 w acc2->acc2.length<=2*(i+1)->acc2++wgo nm f (es.drop (i+1)) d2=wgo nm f es false->Keep H.nx.toNat H H2->∃ m,m<k/\∃ i' l' d' acc',i'+m=es.length/\some w=some l'/\some (AVal.bool d2)=some (.bool d')/\some (AVal.int .i64 (.ofNat (i+1)))=some (.int .i64 (.ofNat i'))/\GD H.nx.toNat H2 l' acc'/\acc'.length<=2*i'/\acc'++wgo nm f (es.drop i') d'=wgo nm f es false/\Keep H.nx.toNat H H2:=fun w H2 acc2 d2 a b c d=>⟨k-1,by omega,i+1,w,d2,acc2,by omega,rfl,rfl,rfl,a,b,c,d⟩
  have hA:=z0o (i:=i) (k:=1) (by omega)
  cases done
  .cases hx:(z5a nm es[i].1 || z14 nm es[i].1)<;>by_cases he:es[i].1=nm
   .rw[q8s hx he]at hw
    rw[decide_eq_true he]at hn2
    simp(maxDischargeDepth:=9)only[auX,bq,aZ,g0,g1,g2,g7,g8,g9,Rd.len h',hi2,e1,e3,hn2,hA,hx]
    exact fin _ _ acc false hG (by omega) hw hK
   .rw[q8r hx he]at hw
    rw[decide_eq_false he]at hn2
    obtain⟨w1,H1,a1,G1,K1⟩:=j1k hG hK.nx (by first | omega | (simp;omega)) es[i].1 es[i].2
    simp(maxDischargeDepth:=9)only[auX,bq,Nat.reduceAdd,zA,aZ,g0,g1,g2,g7,g8,g9,Rd.len h',hi2,e1,e3,hn2,hA,hx,e2,z0r a1]
    exact fin _ _ _ false G1 (by simp;omega) (by simpa using hw) (hK.trans K1)
   .rw[q8q hx he]at hw
    rw[decide_eq_true he]at hn2
    obtain⟨w1,H1,a1,G1,K1⟩:=j1k hG hK.nx (by first | omega | (simp;omega)) nm f
    simp(maxDischargeDepth:=9)only[auX,bq,Nat.reduceAdd,zA,aZ,g0,g1,g2,g7,g8,g9,Rd.len h',hi2,e1,e3,hn2,hA,(st _ (hK.trans K1)).2.1,hx,z0r a1]
    exact fin _ _ _ true G1 (by simp;omega) (by simpa using hw) (hK.trans K1)
   .rw[q8p hx he]at hw
    rw[decide_eq_false he]at hn2
    obtain⟨w1,H1,a1,G1,K1⟩:=j1k hG hK.nx (by first | omega | (simp;omega)) nm f
    have K12:=hK.trans K1
    obtain⟨f2,f3,_⟩:=st _ K12
    obtain⟨w2,H2,a2,G2,K2⟩:=j1k G1 K12.nx (by first | omega | (simp;omega)) es[i].1 es[i].2
    simp(maxDischargeDepth:=9)only[auX,bq,Nat.reduceAdd,zA,aZ,g0,g1,g2,g7,g8,g9,Rd.len h',hi2,e1,e3,hn2,hA,hx,f2,f3,z0r a1,z0r a2]
    exact fin _ _ _ true G2 (by simp;omega) (by simpa using hw) (K12.trans K2)
  .by_cases he:es[i].1=nm
   .rw[q8o he]at hw
    rw[decide_eq_true he]at hn2
    simp(maxDischargeDepth:=9)only[auX,aZ,g0,g1,g2,g7,g8,g9,Rd.len h',hi2,e1,e3,hn2,hA]
    exact fin _ _ acc true hG (by omega) hw hK
   .rw[q8n he]at hw
    rw[decide_eq_false he]at hn2
    obtain⟨w1,H1,a1,G1,K1⟩:=j1k hG hK.nx (by first | omega | (simp;omega)) es[i].1 es[i].2
    simp(maxDischargeDepth:=9)only[auX,Nat.reduceAdd,zA,aZ,g0,g1,g2,g7,g8,g9,Rd.len h',hi2,e1,e3,hn2,hA,e2,z0r a1]
    exact fin _ _ _ true G1 (by simp;omega) (by simpa using hw) (hK.trans K1)
end
theorem GD.dir{N:Nat}{H:AHeap}{v:AVal}{es:List Ent}(h:GD N H v es) :DirR H v es:=h.1.rd
theorem GO.mono{k N M:Nat}{H:AHeap}{v:AVal}{n:Nat}{cs:List AVal}(h:GO k N H v n cs)(hm:M<=N) :GO k M H v n cs:=⟨h.1,fun p hp=>Nat.le_trans hm (h.2 p hp)⟩
section
variable{E:Env}(C:Ck E)
include C
theorem q8x{H:AHeap}{v:AVal}{es:List Ent}(h:DirR H v es)(hl:es.length<=100000)(nm:List Nat)(f:Nat) :∃ w H',z0f E 141 [v,.agg [.int .i64 (.ofNat f),.str nm]] H w H'/\GD H.nx.toNat H' w (z1k es f nm)/\Keep H.nx.toNat H H':=by
 refine C.c141.rr (by conv=>lhs;reduce) ?_
 simp(maxDischargeDepth:=9)only[auX]
 have k1:Keep H.nx.toNat H (H.new (.cells [.int .i64 (.ofNat f),.str nm] false false)).2:=z0d
 have gq:PT.get H.nx (H.new (.cells [.int .i64 (.ofNat f),.str nm] false false)).2.t=some (.cells [.int .i64 (.ofNat f),.str nm] false false):=z0i
 have hq:H.nx.toNat<(H.new (.cells [.int .i64 (.ofNat f),.str nm] false false)).2.nx.toNat:=z0h
 have h1:DirR _ v es:=h.keep k1 lr
 generalize (H.new (.cells [.int .i64 (.ofNat f),.str nm] false false)).2=H1 at k1 gq hq h1 ⊢
 refine W.loopI (fun k t H'=>∃ i l acc,i+k=es.length/\PT.get .h t=some (v)/\PT.get (.o (.o .h)) t=some (.ptr H.nx 0)/\PT.get (.o (.i .h)) t=some (l)/\PT.get (.i (.i .h)) t=some (.int .i64 (.ofNat i))/\GD H1.nx.toNat H' l acc/\acc.length<=i/\acc++(es.drop i).filter (fun e=>e.2≠f)=es.filter (fun e=>e.2≠f)/\Keep H1.nx.toNat H1 H') ?_ es.length _ _ ⟨0,.snil,[],by omega,rfl,rfl,rfl,rfl,GO.nil,by simp,rfl,Keep.refl _ _⟩
 rintro k t H' ⟨i,l,acc,hi,g0,g3,g5,g6,hG,ha,hw,hK⟩
 have h':=Rd.keep h1 hK lr
 have gq':PT.get H.nx H'.t=some (.cells [.int .i64 (.ofNat f),.str nm] false false):=by rw[hK.get _ hq];exact gq
 have hA:=z0o (i:=i) (k:=1)
 by_cases hk:k=0
 .rw[List.drop_eq_nil_of_le (by omega),List.filter_nil,List.append_nil]at hw
  subst hw
  by_cases hn:nm=[]
  .have hn2:z14 nm []=true:=by rw[z1j];simp[hn]
   simp(maxDischargeDepth:=9)only[auX,↓reduceIte,zA,g0,g3,g5,g6,Rd.len h',show ¬ i<es.length by omega,hl_g gq',hn2]
   rw[z1k,if_pos hn]
   exact⟨hG.mono k1.nx,k1.trans (hK.mono k1.nx)⟩
  .have hn2:z14 nm []=false:=by rw[z1j];simp[hn]
   obtain⟨w,H2,c2,G2,K2⟩:=q8m C hG.dir (by omega) nm f
   simp(maxDischargeDepth:=9)only[auX,↓reduceIte,zA,aZ,g0,g3,g5,g6,Rd.len h',show ¬ i<es.length by omega,hl_g gq',hn2,z0c c2]
   rw[z1k,if_neg hn]
   have:=hK.nx
   have:=k1.nx
   exact⟨G2.mono (by omega),(k1.trans (hK.mono k1.nx)).trans (K2.mono (by omega))⟩
 .have hi2:i<es.length:=by omega
  have hA:=hA (by omega)
  obtain⟨b,o,e1,st⟩:=DirR.atS h1 hi2
  obtain⟨e2,e3,e4⟩:=st _ hK
  rw[List.drop_eq_getElem_cons hi2]at hw
  by_cases he:es[i].2=f
  .rw[List.filter_cons_of_neg (by simp[he])]at hw
   simp(maxDischargeDepth:=9)only[auX,aZ,g0,g3,g5,g6,Rd.len h',hA,hi2,e1,e4,hl_g gq',eq_true he]
   exact⟨k-1,by omega,i+1,l,acc,by omega,rfl,rfl,hG,by omega,hw,hK⟩
  .rw[List.filter_cons_of_pos (by simp[he])]at hw
   obtain⟨w1,H2,a1,G1,K1⟩:=j1k hG hK.nx (by omega) es[i].1 es[i].2
   simp(maxDischargeDepth:=9)only[auX,Nat.reduceAdd,zA,aZ,g0,g3,g5,g6,Rd.len h',hA,hi2,e1,e2,e4,hl_g gq',eq_false he,z0r a1]
   exact⟨k-1,by omega,i+1,w1,_,by omega,rfl,rfl,G1,by simp;omega,by simpa using hw,hK.trans K1⟩
end
abbrev FD:=AVal×List Nat×Nat
abbrev DD:=AVal×List Ent
def fcs(fl:List FD) :List AVal:=fl.flatMap fun f=>[f.1,.int .i64 (.ofNat f.2.2)]
def RM(F:Pos)(vf vd vp:AVal)(p:Pos) :Prop:=p=F\/blk vf p\/blk vd p\/blk vp p
structure RSt (H:AHeap) (F:Pos) (vf vd vp:AVal) (fl:List FD) (ds:List DD) (np ct:Nat) :Prop where
 fs:RF H F vf vd vp ct
 top:F.toNat<H.nx.toNat
 gf:GS 2 H vf fl.length (fcs fl)
 gd:GS 1 H vd ds.length (ds.map (·.1))
 gp:∃ cs,GS 2 H vp np cs
 data:∀ f∈fl,Rd 1 H f.1 f.2.1.length (z0b f.2.1)/\∀ u∈f.2.1,u<256
 dirs:∀ d∈ds,DirR H d.1 d.2
 nF:¬ blk vf F/\¬ blk vd F/\¬ blk vp F
 sep:∀ p,(blk vf p->¬ blk vd p/\¬ blk vp p)/\(blk vd p->¬ blk vp p)
 df:∀ f∈fl,∀ p,blk f.1 p->¬ RM F vf vd vp p
 dd:∀ d∈ds,∀ p,blk d.1 p->¬ RM F vf vd vp p
def RSup(F:Pos)(vf vd vp:AVal)(fl:List FD)(ds:List DD)(p:Pos) :Prop:=RM F vf vd vp p\/(∃ f∈fl,blk f.1 p)\/∃ d∈ds,blk d.1 p
section
variable{H H':AHeap}{F:Pos}{vf vd vp:AVal}{fl:List FD}{ds:List DD}{np ct:Nat}
theorem RSt.lt(h:RSt H F vf vd vp fl ds np ct)(p:Pos)(hp:RSup F vf vd vp fl ds p) :p.toNat<H.nx.toNat:=by
 rcases hp with(rfl | hp | hp | hp) | ⟨f,hf,hp⟩ | ⟨d,hd,hp⟩
 .exact h.top
 .exact h.gf.rd.blk_lt p hp
 .exact h.gd.rd.blk_lt p hp
 .obtain⟨cs,h⟩:=h.gp;exact h.rd.blk_lt p hp
 .exact(h.data f hf).1.blk_lt p hp
 .exact Rd.blk_lt (h.dirs d hd) p hp
theorem RSt.frame(h:RSt H F vf vd vp fl ds np ct)(hg:∀ p,RSup F vf vd vp fl ds p->PT.get p H'.t=PT.get p H.t)(hn:H.nx.toNat<=H'.nx.toNat) :RSt H' F vf vd vp fl ds np ct where
 fs:=(hg F (.inl (.inl rfl))).trans h.fs
 top:=Nat.lt_of_lt_of_le h.top hn
 gf:=h.gf.other (fun p hp=>hg p (.inl (.inr (.inl hp)))) hn
 gd:=h.gd.other (fun p hp=>hg p (.inl (.inr (.inr (.inl hp))))) hn
 gp:=by obtain⟨cs,g⟩:=h.gp;exact⟨cs,g.other (fun p hp=>hg p (.inl (.inr (.inr (.inr hp))))) hn⟩
 data:=fun f hf=>⟨(h.data f hf).1.other (fun p hp=>hg p (.inr (.inl ⟨f,hf,hp⟩))) hn,(h.data f hf).2⟩
 dirs:=fun d hd=>Rd.other (h.dirs d hd) (fun p hp=>hg p (.inr (.inr ⟨d,hd,hp⟩))) hn
 nF:=h.nF
 sep:=h.sep
 df:=h.df
 dd:=h.dd
theorem RSt.keep{m:Nat}(h:RSt H F vf vd vp fl ds np ct)(k:Keep m H H')(hm:H.nx.toNat<=m) :RSt H' F vf vd vp fl ds np ct:=h.frame (fun p hp=>k.get p (by have:=h.lt p hp;omega)) k.nx
end
theorem RSt.addP{H:AHeap}{F:Pos}{vf vd vp:AVal}{fl:List FD}{ds:List DD}{np ct:Nat}(h:RSt H F vf vd vp fl ds np ct){x:AVal}{N:Nat}(hN:N<=H.nx.toNat){a b:AVal}(hx:z1e H 2 x=some (1,[a,b]))(hs:z1l [a,b]=true)(hb:np<=1000000) :
  ∃ Hb,z09 H 2 24 vp x=some ((.sl H.nx 0 (np+1) (np+1) 2),Hb)/\RF Hb F vf vd vp ct/\RSt (Hb.upd F (.cells (RC vf vd (.sl H.nx 0 (np+1) (np+1) 2) ct) false false)) F vf vd (.sl H.nx 0 (np+1) (np+1) 2) fl ds (np+1) ct/\Step N (RSup F vf vd vp fl ds) H (RSup F vf vd (.sl H.nx 0 (np+1) (np+1) 2) fl ds) (Hb.upd F (.cells (RC vf vd (.sl H.nx 0 (np+1) (np+1) 2) ct) false false)):=by
 obtain⟨pcs,gp⟩:=h.gp
 have hF:=h.top
 obtain⟨Hb,b1,b2,b3,b4⟩:=j4f (by omega) (by':=24) gp hx (by omega) (by rfl) hs (by omega)
 have hn:Hb.nx.toNat=H.nx.toNat+1:=by rw[b3,Pos.toNat_succ]
 have hg:∀ p:Pos,p.toNat<H.nx.toNat->p≠F->¬ blk vp p->PT.get p (Hb.upd F (.cells (RC vf vd (.sl H.nx 0 (np+1) (np+1) 2) ct) false false)).t=PT.get p H.t:=fun p h1 h2 h3=>by
  rw[z0a (fun e=>h2 e.symm),b4 p h1 h3]
 have hq:PT.get H.nx (Hb.upd F (.cells (RC vf vd (.sl H.nx 0 (np+1) (np+1) 2) ct) false false)).t=some (.cells (pcs++[a,b]) true false):=by
  rw[z0a (fun e=>by rw[e]at hF;omega)];exact b2
 have hl:=h.lt
 have nq:∀ p,RSup F vf vd vp fl ds p->p≠H.nx:=fun p hp e=>by have:=hl p hp;rw[e]at this;omega
 have gR:∀ p,p.toNat<H.nx.toNat->¬ RM F vf vd vp p->PT.get p (Hb.upd F (.cells (RC vf vd (.sl H.nx 0 (np+1) (np+1) 2) ct) false false)).t=PT.get p H.t:=fun p h1 h2=>hg p h1 (fun e=>h2 (.inl e)) (fun e=>h2 (.inr (.inr (.inr e))))
 have hdat:∀ f∈fl,Rd 1 (Hb.upd F (.cells (RC vf vd (.sl H.nx 0 (np+1) (np+1) 2) ct) false false)) f.1 f.2.1.length (z0b f.2.1)/\∀ u∈f.2.1,u<256:=fun f hf=>⟨(h.data f hf).1.other (fun p hp=>gR p (hl p (.inr (.inl ⟨f,hf,hp⟩))) (h.df f hf p hp)) (by show H.nx.toNat<=Hb.nx.toNat;omega),(h.data f hf).2⟩
 have hdir:∀ d∈ds,DirR (Hb.upd F (.cells (RC vf vd (.sl H.nx 0 (np+1) (np+1) 2) ct) false false)) d.1 d.2:=fun d hd=>Rd.other (h.dirs d hd) (fun p hp=>gR p (hl p (.inr (.inr ⟨d,hd,hp⟩))) (h.dd d hd p hp)) (by show H.nx.toNat<=Hb.nx.toNat;omega)
 have hRM:∀ p,p≠H.nx->¬ RM F vf vd vp p->¬ RM F vf vd (.sl H.nx 0 (np+1) (np+1) 2) p:=fun p h1 h2 h3=>by
  rcases h3 with e | e | e | e
  .exact h2 (.inl e)
  .exact h2 (.inr (.inl e))
  .exact h2 (.inr (.inr (.inl e)))
  .exact h1 e
 have hX:GS 2 (Hb.upd F (.cells (RC vf vd (.sl H.nx 0 (np+1) (np+1) 2) ct) false false)) (.sl H.nx 0 (np+1) (np+1) 2) (np+1) (pcs++[a,b]):=⟨by rw[List.length_append,gp.1];simp;try omega,.inr ⟨H.nx,2,true,rfl,hq,.inr rfl,by show _<Hb.nx.toNat;omega⟩⟩
 have ho:H.nx.toNat<=(Hb.upd F (.cells (RC vf vd (.sl H.nx 0 (np+1) (np+1) 2) ct) false false)).nx.toNat:=by show _<=Hb.nx.toNat;omega
 have hM:∀ p,RM F vf vd (.sl H.nx 0 (np+1) (np+1) 2) p->RM F vf vd vp p\/N<=p.toNat:=fun p hp=>by
  rcases hp with e | e | e | e
  .exact .inl (.inl e)
  .exact .inl (.inr (.inl e))
  .exact .inl (.inr (.inr (.inl e)))
  .cases e;exact .inr hN
 have nF:¬ blk vf F/\¬ blk vd F/\¬ blk (.sl H.nx 0 (np+1) (np+1) 2) F:=⟨h.nF.1,h.nF.2.1,fun e=>nq F (.inl (.inl rfl)) e⟩
 have R:RSt (Hb.upd F (.cells (RC vf vd (.sl H.nx 0 (np+1) (np+1) 2) ct) false false)) F vf vd (.sl H.nx 0 (np+1) (np+1) 2) fl ds (np+1) ct:=by
  refine⟨z0q,by show _<Hb.nx.toNat;omega,?_,?_,?_,?_,?_,nF,?_,?_,?_⟩
  .exact h.gf.other (fun p hp=>hg p (hl p (.inl (.inr (.inl hp)))) (fun e=>h.nF.1 (e▸hp)) ((h.sep p).1 hp |>.2)) ho
  .exact h.gd.other (fun p hp=>hg p (hl p (.inl (.inr (.inr (.inl hp))))) (fun e=>h.nF.2.1 (e▸hp)) ((h.sep p).2 hp)) ho
  .exact⟨_,hX⟩
  .exact hdat
  .exact hdir
  .intro p
   exact⟨fun e=>⟨((h.sep p).1 e).1,fun e2=>by cases e2;exact nq _ (.inl (.inr (.inl e))) rfl⟩,fun e e2=>by cases e2;exact nq _ (.inl (.inr (.inr (.inl e)))) rfl⟩
  .exact fun f hf p hp=>hRM p (nq p (.inr (.inl ⟨f,hf,hp⟩))) (h.df f hf p hp)
  .exact fun d hd p hp=>hRM p (nq p (.inr (.inr ⟨d,hd,hp⟩))) (h.dd d hd p hp)
 refine⟨Hb,b1,?_,R,ho,fun p h1 h2=>gR p (by omega) (fun e=>h2 (.inl e)),?_,R.lt⟩
 .show PT.get F Hb.t=_
  rw[b4 F hF (h.nF.2.2)];exact h.fs
 .rintro p (hp | ⟨f,hf,hp⟩ | ⟨d,hd,hp⟩)
  .rcases hM p hp with e | e
   .exact .inl (.inl e)
   .exact .inr e
  .exact .inl (.inr (.inl ⟨f,hf,hp⟩))
  .exact .inl (.inr (.inr ⟨d,hd,hp⟩))
theorem RSt.addD{H:AHeap}{F:Pos}{vf vd vp:AVal}{fl:List FD}{ds:List DD}{np ct:Nat}(h:RSt H F vf vd vp fl ds np ct){x:AVal}{N:Nat}(hN:N<=H.nx.toNat){w:AVal}{es:List Ent}(hw:DirR H w es)(hw2:∀ p,blk w p->¬ RM F vf vd vp p)(hw3:∀ p,blk w p->RSup F vf vd vp fl ds p\/N<=p.toNat)(hx:z1e H 1 x=some (1,[w]))(hs:z1l [w]=true)(hb:ds.length<=1000000) :
  ∃ Hb,z09 H 1 24 vd x=some ((.sl H.nx 0 (ds.length+1) (ds.length+1) 1),Hb)/\RF Hb F vf vd vp ct/\RSt (Hb.upd F (.cells (RC vf (.sl H.nx 0 (ds.length+1) (ds.length+1) 1) vp ct) false false)) F vf (.sl H.nx 0 (ds.length+1) (ds.length+1) 1) vp fl (ds++[(w,es)]) np ct/\Step N (RSup F vf vd vp fl ds) H (RSup F vf (.sl H.nx 0 (ds.length+1) (ds.length+1) 1) vp fl (ds++[(w,es)])) (Hb.upd F (.cells (RC vf (.sl H.nx 0 (ds.length+1) (ds.length+1) 1) vp ct) false false)):=by
 have hF:=h.top
 obtain⟨Hb,b1,b2,b3,b4⟩:=j4f (by omega) (by':=24) h.gd hx (by omega) (by rfl) hs (by omega)
 have hn:Hb.nx.toNat=H.nx.toNat+1:=by rw[b3,Pos.toNat_succ]
 have hg:∀ p:Pos,p.toNat<H.nx.toNat->p≠F->¬ blk vd p->PT.get p (Hb.upd F (.cells (RC vf (.sl H.nx 0 (ds.length+1) (ds.length+1) 1) vp ct) false false)).t=PT.get p H.t:=fun p h1 h2 h3=>by
  rw[z0a (fun e=>h2 e.symm),b4 p h1 h3]
 have hq:PT.get H.nx (Hb.upd F (.cells (RC vf (.sl H.nx 0 (ds.length+1) (ds.length+1) 1) vp ct) false false)).t=some (.cells (ds.map (·.1)++[w]) true false):=by
  rw[z0a (fun e=>by rw[e]at hF;omega)];exact b2
 have hl:=h.lt
 have nq:∀ p,RSup F vf vd vp fl ds p->p≠H.nx:=fun p hp e=>by have:=hl p hp;rw[e]at this;omega
 have gR:∀ p,p.toNat<H.nx.toNat->¬ RM F vf vd vp p->PT.get p (Hb.upd F (.cells (RC vf (.sl H.nx 0 (ds.length+1) (ds.length+1) 1) vp ct) false false)).t=PT.get p H.t:=fun p h1 h2=>hg p h1 (fun e=>h2 (.inl e)) (fun e=>h2 (.inr (.inr (.inl e))))
 have hdat:∀ f∈fl,Rd 1 (Hb.upd F (.cells (RC vf (.sl H.nx 0 (ds.length+1) (ds.length+1) 1) vp ct) false false)) f.1 f.2.1.length (z0b f.2.1)/\∀ u∈f.2.1,u<256:=fun f hf=>⟨(h.data f hf).1.other (fun p hp=>gR p (hl p (.inr (.inl ⟨f,hf,hp⟩))) (h.df f hf p hp)) (by show H.nx.toNat<=Hb.nx.toNat;omega),(h.data f hf).2⟩
 have hdir:∀ d∈ds,DirR (Hb.upd F (.cells (RC vf (.sl H.nx 0 (ds.length+1) (ds.length+1) 1) vp ct) false false)) d.1 d.2:=fun d hd=>Rd.other (h.dirs d hd) (fun p hp=>gR p (hl p (.inr (.inr ⟨d,hd,hp⟩))) (h.dd d hd p hp)) (by show H.nx.toNat<=Hb.nx.toNat;omega)
 have hRM:∀ p,p≠H.nx->¬ RM F vf vd vp p->¬ RM F vf (.sl H.nx 0 (ds.length+1) (ds.length+1) 1) vp p:=fun p h1 h2 h3=>by
  rcases h3 with e | e | e | e
  .exact h2 (.inl e)
  .exact h2 (.inr (.inl e))
  .exact h1 e
  .exact h2 (.inr (.inr (.inr e)))
 have hX:GS 1 (Hb.upd F (.cells (RC vf (.sl H.nx 0 (ds.length+1) (ds.length+1) 1) vp ct) false false)) (.sl H.nx 0 (ds.length+1) (ds.length+1) 1) (ds.length+1) (ds.map (·.1)++[w]):=⟨by rw[List.length_append,h.gd.1];simp;try omega,.inr ⟨H.nx,1,true,rfl,hq,.inr rfl,by show _<Hb.nx.toNat;omega⟩⟩
 have ho:H.nx.toNat<=(Hb.upd F (.cells (RC vf (.sl H.nx 0 (ds.length+1) (ds.length+1) 1) vp ct) false false)).nx.toNat:=by show _<=Hb.nx.toNat;omega
 have hM:∀ p,RM F vf (.sl H.nx 0 (ds.length+1) (ds.length+1) 1) vp p->RM F vf vd vp p\/N<=p.toNat:=fun p hp=>by
  rcases hp with e | e | e | e
  .exact .inl (.inl e)
  .exact .inl (.inr (.inl e))
  .cases e;exact .inr hN
  .exact .inl (.inr (.inr (.inr e)))
 have nF:¬ blk vf F/\¬ blk (.sl H.nx 0 (ds.length+1) (ds.length+1) 1) F/\¬ blk vp F:=⟨h.nF.1,fun e=>nq F (.inl (.inl rfl)) e,h.nF.2.2⟩
 have R:RSt (Hb.upd F (.cells (RC vf (.sl H.nx 0 (ds.length+1) (ds.length+1) 1) vp ct) false false)) F vf (.sl H.nx 0 (ds.length+1) (ds.length+1) 1) vp fl (ds++[(w,es)]) np ct:=by
  refine⟨z0q,by show _<Hb.nx.toNat;omega,?_,?_,?_,?_,?_,nF,?_,?_,?_⟩
  .exact h.gf.other (fun p hp=>hg p (hl p (.inl (.inr (.inl hp)))) (fun e=>h.nF.1 (e▸hp)) ((h.sep p).1 hp |>.1)) ho
  .rw[List.map_append,List.length_append];exact hX
  .obtain⟨pcs,gp⟩:=h.gp;exact⟨pcs,gp.other (fun p hp=>hg p (hl p (.inl (.inr (.inr (.inr hp))))) (fun e=>h.nF.2.2 (e▸hp)) (fun e=>(h.sep p).2 e hp)) ho⟩
  .exact hdat
  .intro d' hd'
   rcases List.mem_append.1 hd' with hd' | hd'
   .exact hdir d' hd'
   .obtain rfl:d'=(w,es):=by simpa using hd'
    exact Rd.other hw (fun p hp=>gR p (Rd.blk_lt hw p hp) (hw2 p hp)) ho
  .intro p
   exact⟨fun e=>⟨fun e2=>by cases e2;exact nq _ (.inl (.inr (.inl e))) rfl,((h.sep p).1 e).2⟩,fun e=>by cases e;exact fun e2=>nq _ (.inl (.inr (.inr (.inr e2)))) rfl⟩
  .exact fun f hf p hp=>hRM p (nq p (.inr (.inl ⟨f,hf,hp⟩))) (h.df f hf p hp)
  .intro d' hd' p hp
   rcases List.mem_append.1 hd' with hd' | hd'
   .exact hRM p (nq p (.inr (.inr ⟨d',hd',hp⟩))) (h.dd d' hd' p hp)
   .obtain rfl:d'=(w,es):=by simpa using hd'
    exact hRM p (fun e=>by have:=Rd.blk_lt hw p hp;rw[e]at this;omega) (hw2 p hp)
 refine⟨Hb,b1,?_,R,ho,fun p h1 h2=>gR p (by omega) (fun e=>h2 (.inl e)),?_,R.lt⟩
 .show PT.get F Hb.t=_
  rw[b4 F hF (h.nF.2.1)];exact h.fs
 .rintro p (hp | ⟨f,hf,hp⟩ | ⟨d,hd,hp⟩)
  .rcases hM p hp with e | e
   .exact .inl (.inl e)
   .exact .inr e
  .exact .inl (.inr (.inl ⟨f,hf,hp⟩))
  .rcases List.mem_append.1 hd with hd | hd
   .exact .inl (.inr (.inr ⟨d,hd,hp⟩))
   .obtain rfl:d=(w,es):=by simpa using hd
    exact hw3 p hp
theorem RSt.addF{H:AHeap}{F:Pos}{vf vd vp:AVal}{fl:List FD}{ds:List DD}{np ct:Nat}(h:RSt H F vf vd vp fl ds np ct){x:AVal}{N:Nat}(hN:N<=H.nx.toNat)  (hx:z1e H 2 x=some (1,[.snil,.int .i64 (.ofNat 0)])) (hs:z1l [.snil,.int .i64 (.ofNat 0)]=true) (hb:fl.length<=1000000) :
  ∃ Hb,z09 H 2 32 vf x=some ((.sl H.nx 0 (fl.length+1) (fl.length+1) 2),Hb)/\RF Hb F vf vd vp ct/\RSt (Hb.upd F (.cells (RC (.sl H.nx 0 (fl.length+1) (fl.length+1) 2) vd vp ct) false false)) F (.sl H.nx 0 (fl.length+1) (fl.length+1) 2) vd vp (fl++[(.snil,[],0)]) ds np ct/\Step N (RSup F vf vd vp fl ds) H (RSup F (.sl H.nx 0 (fl.length+1) (fl.length+1) 2) vd vp (fl++[(.snil,[],0)]) ds) (Hb.upd F (.cells (RC (.sl H.nx 0 (fl.length+1) (fl.length+1) 2) vd vp ct) false false)):=by
 have hF:=h.top
 obtain⟨Hb,b1,b2,b3,b4⟩:=j4f (by omega) (by':=32) h.gf hx (by omega) (by rfl) hs (by omega)
 have hn:Hb.nx.toNat=H.nx.toNat+1:=by rw[b3,Pos.toNat_succ]
 have hg:∀ p:Pos,p.toNat<H.nx.toNat->p≠F->¬ blk vf p->PT.get p (Hb.upd F (.cells (RC (.sl H.nx 0 (fl.length+1) (fl.length+1) 2) vd vp ct) false false)).t=PT.get p H.t:=fun p h1 h2 h3=>by
  rw[z0a (fun e=>h2 e.symm),b4 p h1 h3]
 have hq:PT.get H.nx (Hb.upd F (.cells (RC (.sl H.nx 0 (fl.length+1) (fl.length+1) 2) vd vp ct) false false)).t=some (.cells (fcs fl++[.snil,.int .i64 (.ofNat 0)]) true false):=by
  rw[z0a (fun e=>by rw[e]at hF;omega)];exact b2
 have hl:=h.lt
 have nq:∀ p,RSup F vf vd vp fl ds p->p≠H.nx:=fun p hp e=>by have:=hl p hp;rw[e]at this;omega
 have gR:∀ p,p.toNat<H.nx.toNat->¬ RM F vf vd vp p->PT.get p (Hb.upd F (.cells (RC (.sl H.nx 0 (fl.length+1) (fl.length+1) 2) vd vp ct) false false)).t=PT.get p H.t:=fun p h1 h2=>hg p h1 (fun e=>h2 (.inl e)) (fun e=>h2 (.inr (.inl e)))
 have hdat:∀ f∈fl,Rd 1 (Hb.upd F (.cells (RC (.sl H.nx 0 (fl.length+1) (fl.length+1) 2) vd vp ct) false false)) f.1 f.2.1.length (z0b f.2.1)/\∀ u∈f.2.1,u<256:=fun f hf=>⟨(h.data f hf).1.other (fun p hp=>gR p (hl p (.inr (.inl ⟨f,hf,hp⟩))) (h.df f hf p hp)) (by show H.nx.toNat<=Hb.nx.toNat;omega),(h.data f hf).2⟩
 have hdir:∀ d∈ds,DirR (Hb.upd F (.cells (RC (.sl H.nx 0 (fl.length+1) (fl.length+1) 2) vd vp ct) false false)) d.1 d.2:=fun d hd=>Rd.other (h.dirs d hd) (fun p hp=>gR p (hl p (.inr (.inr ⟨d,hd,hp⟩))) (h.dd d hd p hp)) (by show H.nx.toNat<=Hb.nx.toNat;omega)
 have hRM:∀ p,p≠H.nx->¬ RM F vf vd vp p->¬ RM F (.sl H.nx 0 (fl.length+1) (fl.length+1) 2) vd vp p:=fun p h1 h2 h3=>by
  rcases h3 with e | e | e | e
  .exact h2 (.inl e)
  .exact h1 e
  .exact h2 (.inr (.inr (.inl e)))
  .exact h2 (.inr (.inr (.inr e)))
 have hX:GS 2 (Hb.upd F (.cells (RC (.sl H.nx 0 (fl.length+1) (fl.length+1) 2) vd vp ct) false false)) (.sl H.nx 0 (fl.length+1) (fl.length+1) 2) (fl.length+1) (fcs fl++[.snil,.int .i64 (.ofNat 0)]):=⟨by rw[List.length_append,h.gf.1];simp;try omega,.inr ⟨H.nx,2,true,rfl,hq,.inr rfl,by show _<Hb.nx.toNat;omega⟩⟩
 have ho:H.nx.toNat<=(Hb.upd F (.cells (RC (.sl H.nx 0 (fl.length+1) (fl.length+1) 2) vd vp ct) false false)).nx.toNat:=by show _<=Hb.nx.toNat;omega
 have hM:∀ p,RM F (.sl H.nx 0 (fl.length+1) (fl.length+1) 2) vd vp p->RM F vf vd vp p\/N<=p.toNat:=fun p hp=>by
  rcases hp with e | e | e | e
  .exact .inl (.inl e)
  .cases e;exact .inr hN
  .exact .inl (.inr (.inr (.inl e)))
  .exact .inl (.inr (.inr (.inr e)))
 have nF:¬ blk (.sl H.nx 0 (fl.length+1) (fl.length+1) 2) F/\¬ blk vd F/\¬ blk vp F:=⟨fun e=>nq F (.inl (.inl rfl)) e,h.nF.2.1,h.nF.2.2⟩
 have R:RSt (Hb.upd F (.cells (RC (.sl H.nx 0 (fl.length+1) (fl.length+1) 2) vd vp ct) false false)) F (.sl H.nx 0 (fl.length+1) (fl.length+1) 2) vd vp (fl++[(.snil,[],0)]) ds np ct:=by
  refine⟨z0q,by show _<Hb.nx.toNat;omega,?_,?_,?_,?_,?_,nF,?_,?_,?_⟩
  .have e:fcs (fl++[(.snil,[],0)])=fcs fl++[.snil,.int .i64 (.ofNat 0)]:=by simp[fcs]
   rw[e,List.length_append];exact hX
  .exact h.gd.other (fun p hp=>hg p (hl p (.inl (.inr (.inr (.inl hp))))) (fun e=>h.nF.2.1 (e▸hp)) (fun e=>((h.sep p).1 e).1 hp)) ho
  .obtain⟨pcs,gp⟩:=h.gp;exact⟨pcs,gp.other (fun p hp=>hg p (hl p (.inl (.inr (.inr (.inr hp))))) (fun e=>h.nF.2.2 (e▸hp)) (fun e=>((h.sep p).1 e).2 hp)) ho⟩
  .intro f' hf'
   rcases List.mem_append.1 hf' with hf' | hf'
   .exact hdat f' hf'
   .obtain rfl:f'=(.snil,[],0):=by simpa using hf'
    exact⟨⟨by simp[z0b],.inl ⟨rfl,rfl⟩⟩,fun _ h=>by cases h⟩
  .exact hdir
  .intro p
   exact⟨fun e=>by cases e;exact⟨fun e2=>nq _ (.inl (.inr (.inr (.inl e2)))) rfl,fun e2=>nq _ (.inl (.inr (.inr (.inr e2)))) rfl⟩,(h.sep p).2⟩
  .intro f' hf' p hp
   rcases List.mem_append.1 hf' with hf' | hf'
   .exact hRM p (nq p (.inr (.inl ⟨f',hf',hp⟩))) (h.df f' hf' p hp)
   .obtain rfl:f'=(.snil,[],0):=by simpa using hf'
    cases hp
  .exact fun d hd p hp=>hRM p (nq p (.inr (.inr ⟨d,hd,hp⟩))) (h.dd d hd p hp)
 refine⟨Hb,b1,?_,R,ho,fun p h1 h2=>gR p (by omega) (fun e=>h2 (.inl e)),?_,R.lt⟩
 .show PT.get F Hb.t=_
  rw[b4 F hF (h.nF.1)];exact h.fs
 .rintro p (hp | ⟨f,hf,hp⟩ | ⟨d,hd,hp⟩)
  .rcases hM p hp with e | e
   .exact .inl (.inl e)
   .exact .inr e
  .rcases List.mem_append.1 hf with hf | hf
   .exact .inl (.inr (.inl ⟨f,hf,hp⟩))
   .obtain rfl:f=(.snil,[],0):=by simpa using hf
    cases hp
  .exact .inl (.inr (.inr ⟨d,hd,hp⟩))
theorem RSt.setC{H:AHeap}{F:Pos}{vf vd vp:AVal}{fl:List FD}{ds:List DD}{np ct:Nat}(h:RSt H F vf vd vp fl ds np ct)(ct' N:Nat) :RSt (H.upd F (.cells (RC vf vd vp ct') false false)) F vf vd vp fl ds np ct'/\Step N (RSup F vf vd vp fl ds) H (RSup F vf vd vp fl ds) (H.upd F (.cells (RC vf vd vp ct') false false)):=by
 have hg:∀ p,p≠F->PT.get p (H.upd F (.cells (RC vf vd vp ct') false false)).t=PT.get p H.t:=fun p hp=>z0a (fun e=>hp e.symm)
 obtain⟨pcs,gp⟩:=h.gp
 have R:RSt (H.upd F (.cells (RC vf vd vp ct') false false)) F vf vd vp fl ds np ct' :=
  ⟨z0q,h.top,h.gf.other (fun p hp=>hg p (fun e=>h.nF.1 (e▸hp))) lr,h.gd.other (fun p hp=>hg p (fun e=>h.nF.2.1 (e▸hp))) lr,⟨pcs,gp.other (fun p hp=>hg p (fun e=>h.nF.2.2 (e▸hp))) lr⟩,
   fun f hf=>⟨(h.data f hf).1.other (fun p hp=>hg p (fun e=>h.df f hf p hp (.inl e))) lr,(h.data f hf).2⟩,fun d hd=>Rd.other (h.dirs d hd) (fun p hp=>hg p (fun e=>h.dd d hd p hp (.inl e))) lr,h.nF,h.sep,h.df,h.dd⟩
 exact⟨R,lr,fun p _ hp=>hg p (fun e=>hp (.inl (.inl e))),fun _ hp=>.inl hp,R.lt⟩
theorem j9x:∀ (fl:List FD) (i:Nat) (hi:i<fl.length) (v:AVal) (bs:List Nat) (s:Nat),lput (fcs fl) (i*2) [v]=some (fcs (fl.set i (v,bs,fl[i].2.2)))/\lput (fcs fl) (i*2+1) [.int .i64 (.ofNat s)]=some (fcs (fl.set i (fl[i].1,fl[i].2.1,s)))
 | f::fl,0,_,v,bs,s=>by
  constructor
  .show lput (f.1::.int .i64 (.ofNat f.2.2)::fcs fl) 0 [v]=_
   rfl
  .show lput (f.1::.int .i64 (.ofNat f.2.2)::fcs fl) 1 [_]=_
   simp only[lput,z6q,fcs,List.set,List.flatMap_cons]
   rfl
 | f::fl,i+1,h,v,bs,s=>by
  obtain⟨h1,h2⟩:=j9x fl i (by simpa using h) v bs s
  have e1:(i+1)*2=(i*2)+1+1:=by omega
  have e2:(i+1)*2+1=(i*2+1)+1+1:=by omega
  constructor
  .show lput (f.1::.int .i64 (.ofNat f.2.2)::fcs fl) ((i+1)*2) [v]=_
   rw[e1]
   simp only[lput,h1]
   rfl
  .show lput (f.1::.int .i64 (.ofNat f.2.2)::fcs fl) ((i+1)*2+1) [_]=_
   rw[e2]
   simp only[lput,h2]
   rfl
theorem RSt.setF{H:AHeap}{F:Pos}{vf vd vp:AVal}{fl:List FD}{ds:List DD}{np ct:Nat}(h:RSt H F vf vd vp fl ds np ct){i:Nat}(hi:i<fl.length) :∃ bf op,z2t 2 vf (.int .i64 (.ofNat i))=some (.ptr bf (i*2))/\PT.get bf H.t=some (.cells (fcs fl) op false)/\bf≠F/\z04 H bf (i*2)=some fl[i].1 ∧
  ∀ (N:Nat) (e:FD),Rd 1 H e.1 e.2.1.length (z0b e.2.1)->(∀ u∈e.2.1,u<256)->(∀ p,blk e.1 p->¬ RM F vf vd vp p)->(∀ p,blk e.1 p->RSup F vf vd vp fl ds p\/N<=p.toNat)->RSt (H.upd bf (.cells (fcs (fl.set i e)) op false)) F vf vd vp (fl.set i e) ds np ct/\Step N (RSup F vf vd vp fl ds) H (RSup F vf vd vp (fl.set i e) ds) (H.upd bf (.cells (fcs (fl.set i e)) op false)):=by
 obtain⟨h0,⟨rfl,h1⟩ | ⟨bf,z,op,rfl,hg0,hz,hb⟩⟩:=h.gf
 .omega
 have hbF:bf≠F:=fun e=>h.nF.1 e.symm
 refine⟨bf,op,?_,hg0,hbF,?_,fun N e he1 he2 he3 he4=>?_⟩
 .show(match Nat.blt i fl.length with | true=>some (AVal.ptr bf (0+i*2)) | false=>none)=_
  rw[y41 hi,Nat.zero_add]
 .rw[z9i hg0,z5x]
  have:=z9k (fun f:FD=>[f.1,.int .i64 (.ofNat f.2.2)]) 2 (fun _=>rfl) fl i hi
  have e2:((fcs fl).drop (i*2)).take 2=[fl[i].1,.int .i64 (.ofNat fl[i].2.2)]:=this
  have e3:(((fcs fl).drop (i*2)).take 2)[0]? = some fl[i].1:=by rw[e2];rfl
  rw[List.getElem?_take_of_lt (by omega),List.getElem?_drop]at e3
  exact e3
 .have hg:∀ p,p≠bf->PT.get p (H.upd bf (.cells (fcs (fl.set i e)) op false)).t=PT.get p H.t:=fun p hp=>z0a (fun x=>hp x.symm)
  obtain⟨pcs,gp⟩:=h.gp
  have hd2:∀ f∈fl.set i e,f∈fl\/f=e:=fun f hf=>by
   rcases List.mem_or_eq_of_mem_set hf with h | h
   .exact .inl h
   .exact .inr h
  have R:RSt (H.upd bf (.cells (fcs (fl.set i e)) op false)) F (.sl bf 0 fl.length fl.length z) vd vp (fl.set i e) ds np ct:=by
   refine⟨(hg F (fun x=>hbF x.symm)).trans h.fs,h.top,?_,?_,⟨pcs,?_⟩,?_,?_,h.nF,h.sep,?_,h.dd⟩
   .refine⟨?_,.inr ⟨bf,z,op,by rw[List.length_set],z0q,hz,hb⟩⟩
    have:∀ l:List FD,(fcs l).length=l.length*2:=fun l=>by
     induction l with
     | nil=>rfl
     | cons a l ih=>show(a.1::.int .i64 (.ofNat a.2.2)::fcs l).length=_;simp only[List.length_cons,ih];omega
    rw[this]
   .exact h.gd.other (fun p hp=>hg p (fun x=>((h.sep p).1 (by rw[x];rfl)).1 hp)) lr
   .exact gp.other (fun p hp=>hg p (fun x=>((h.sep p).1 (by rw[x];rfl)).2 hp)) lr
   .intro f hf
    rcases hd2 f hf with h' | rfl
    .exact⟨(h.data f h').1.other (fun p hp=>hg p (fun x=>h.df f h' p hp (.inr (.inl x)))) lr,(h.data f h').2⟩
    .exact⟨he1.other (fun p hp=>hg p (fun x=>he3 p hp (.inr (.inl x)))) lr,he2⟩
   .exact fun d hd=>Rd.other (h.dirs d hd) (fun p hp=>hg p (fun x=>h.dd d hd p hp (.inr (.inl x)))) lr
   .intro f hf p hp
    rcases hd2 f hf with h' | rfl
    .exact h.df f h' p hp
    .exact he3 p hp
  refine⟨R,lr,fun p _ hp=>hg p (fun x=>hp (.inl (.inr (.inl x)))),?_,R.lt⟩
  rintro p (hp | ⟨f,hf,hp⟩ | ⟨d,hd,hp⟩)
  .exact .inl (.inl hp)
  .rcases hd2 f hf with h' | rfl
   .exact .inl (.inr (.inl ⟨f,h',hp⟩))
   .exact he4 p hp
  .exact .inl (.inr (.inr ⟨d,hd,hp⟩))
section
variable{E:Env}(C:Ck E)
include C
end
theorem q1o(ds:List DD)(d:DD) :(ds++[d]).map (·.1)=ds.map (·.1)++[d.1]:=by simp
theorem RSt.sc{H:AHeap}{F:Pos}{vf vd vp:AVal}{fl:List FD}{ds:List DD}{np ct:Nat}(h:RSt H F vf vd vp fl ds np ct) :z1g vf=true/\z1g vd=true/\z1g vp=true/\same vf vf=true/\same vd vd=true/\same vp vp=true:=by
 obtain⟨_,g⟩:=h.gp
 exact⟨h.gf.rd.scal,h.gd.rd.scal,g.rd.scal,h.gf.rd.same,h.gd.rd.same,g.rd.same⟩
theorem RSt.now{H:AHeap}{F:Pos}{vf vd vp:AVal}{fl:List FD}{ds:List DD}{np ct:Nat}{d:AVal}{es:List Ent}(h:RSt H F vf vd vp fl (ds++[(d,es)]) np ct) :Rd 1 H vd (ds.length+1) (ds.map (·.1)++[d])/\DirR H d es/\∀ p,blk d p->¬ RM F vf vd vp p:=by
 refine⟨?_,h.dirs (d,es) (by simp),h.dd (d,es) (by simp)⟩
 have:=h.gd.rd
 rw[q1o,List.length_append]at this
 exact this
section
variable{E:Env}(C:Ck E)
include C
theorem z3y{H:AHeap}{F:Pos}{vf vd vp:AVal}{fl:List FD}{ds:List DD}{np ct:Nat}{d:AVal}{es:List Ent}(h:RSt H F vf vd vp fl (ds++[(d,es)]) np ct)(hn:ds.length<=1000) :z0f E 75 [.ptr F 0] H d H:=k0k C h.fs h.now.1 (by omega)
theorem q5f{N:Nat}{H:AHeap}{F:Pos}{vf vd vp:AVal}{fl:List FD}{ds:List DD}{d:AVal}{es:List Ent}{np ct:Nat}(h:RSt H F vf vd vp fl (ds++[(d,es)]) np ct)(hN:N<=H.nx.toNat)(hes:es.length<=1000)(hds:ds.length<=1000)(hnp:np<=1000)(hct:ct<=1000000)(f:Nat)(nm:List Nat) :
  ∃ vd' vp' w H',z0f E 76 [.ptr F 0,.int .i64 (.ofNat f),.str nm] H (.int .i64 (.ofNat 0)) H'/\RSt H' F vf vd' vp' fl (ds++[(d,es)]++[(w,z1k es f nm)]) (np+1) (ct+1)/\Step N (RSup F vf vd vp fl (ds++[(d,es)])) H (RSup F vf vd' vp' fl (ds++[(d,es)]++[(w,z1k es f nm)])) H':=by
 have kk:Keep H.nx.toNat H (H.new (.cells [.int .i64 (.ofNat f),.str nm] false false)).2:=z0d
 have gq:PT.get H.nx (H.new (.cells [.int .i64 (.ofNat f),.str nm] false false)).2.t=some (.cells [.int .i64 (.ofNat f),.str nm] false false):=z0i
 have h0:=h.keep kk lr
 have hq:H.nx.toNat<(H.new (.cells [.int .i64 (.ofNat f),.str nm] false false)).2.nx.toNat:=z0h
 have ka:Keep _ _ ((H.new (.cells [.int .i64 (.ofNat f),.str nm] false false)).2.new (.cells [.int .i64 (.ofNat f),.str nm] false false)).2:=z0d
 have ha:=h0.keep ka lr
 have hsa:=z9y (H:=(H.new (.cells [.int .i64 (.ofNat f),.str nm] false false)).2) (k:=2) (row:=[.int .i64 (.ofNat f),.str nm]) rfl
 obtain⟨Hb,b1,fsb,R1,S1⟩:=ha.addP lr hsa rfl (by omega)
 have T1:=((kk.mono hN).trans (ka.mono (Nat.le_trans hN kk.nx))).step h.lt |>.trans (S1.mono (Nat.le_trans hN (Nat.le_trans kk.nx ka.nx)))
 have hqs:¬ RSup F vf vd vp fl (ds++[(d,es)]) H.nx:=fun e=>by have:=h.lt _ e;omega
 have gc:=S1.get H.nx (Nat.lt_of_lt_of_le hq ka.nx) hqs
 rw[ka.get _ hq,gq]at gc
 generalize hvp:AVal.sl _ 0 (np+1) (np+1) 2=vp' at b1 R1 S1 T1 gc
 generalize hHc:Hb.upd F (.cells (RC vf vd vp' ct) false false)=Hc at R1 S1 T1 gc
 have hnc:H.nx.toNat<Hc.nx.toNat:=Nat.lt_of_lt_of_le hq (Nat.le_trans ka.nx S1.nx)
 obtain⟨n1,n2,n3⟩:=R1.now
 have cn:=k0k C R1.fs n1 (by omega)
 obtain⟨w,Hd,c2,G2,K2⟩:=q8x C n2 (by omega) nm f
 have R2:=R1.keep K2 lr
 have gd:=(K2.get _ hnc).trans gc
 have hnd:=K2.nx
 have ke:Keep Hd.nx.toNat Hd (Hd.new (.cells [w] false false)).2:=z0d
 have R3:=R2.keep ke lr
 have hnl:N<=Hc.nx.toNat:=by omega
 obtain⟨Hf,f1,fsf,R4,S4⟩:=R3.addD (N:=N) (by have:=ke.nx;omega) (Rd.keep G2.dir ke lr) (fun p hp hm=>by have:=G2.2 p hp;have:=R1.lt p (.inl hm);omega) (fun p hp=>.inr (by have:=G2.2 p hp;omega)) (z9y (H:=Hd) (k:=1) (row:=[w]) rfl) (by rw[z0p (Rd.scal G2.dir)];rfl) (by simp;omega)
 have T4:=(T1.trans (((K2.mono hnl).trans (ke.mono (by omega))).step R1.lt)).trans S4
 have sd:=R2.gd.rd.same
 generalize hvd:AVal.sl _ 0 (List.length _+1) _ 1=vd' at f1 R4 S4 T4
 have cp:=y7f C R4.fs (by omega)
 obtain⟨R5,S5⟩:=R4.setC (ct+1) N
 refine⟨vd',vp',w,_,?_,R5,T4.trans S5⟩
 subst hHc
 refine C.c76.re (by conv=>lhs;reduce) ?_
 simp(maxDischargeDepth:=9)only[auX,reduceCtorEq,Nat.reduceAdd,zA,Nat.reduceAnd,hl_g h0.fs,z16 b1,z0z fsb,hl_g R1.fs,hn_g gc,R1.sc,R4.sc,z0j cn,hl_g R2.fs,z0j c2,Rd.scal G2.dir,z16 f1,z0z fsf,z0c cp]
 trace_state
end
def RS(H:AHeap)(F:Pos)(files:List (List Nat×Nat))(dirs:List (List Ent))(np ct:Nat)(S:Pos->Prop) :Prop :=
 ∃ vf vd vp fl ds,RSt H F vf vd vp fl ds np ct/\fl.map (·.2)=files/\ds.map (·.2)=dirs/\S=RSup F vf vd vp fl ds
theorem RS.lt{H:AHeap}{F:Pos}{files:List (List Nat×Nat)}{dirs:List (List Ent)}{np ct:Nat}{S:Pos->Prop}(h:RS H F files dirs np ct S)(p:Pos)(hp:S p) :p.toNat<H.nx.toNat:=by
 obtain⟨vf,vd,vp,fl,ds,h,_,_,rfl⟩:=h
 exact h.lt p hp
theorem RS.frame{H H':AHeap}{F:Pos}{files:List (List Nat×Nat)}{dirs:List (List Ent)}{np ct:Nat}{S:Pos->Prop}(h:RS H F files dirs np ct S)(hg:∀ p,S p->PT.get p H'.t=PT.get p H.t)(hn:H.nx.toNat<=H'.nx.toNat) :RS H' F files dirs np ct S:=by
 obtain⟨vf,vd,vp,fl,ds,h,a,b,rfl⟩:=h
 exact⟨vf,vd,vp,fl,ds,h.frame hg hn,a,b,rfl⟩
theorem RS.keep{m:Nat}{H H':AHeap}{F:Pos}{files:List (List Nat×Nat)}{dirs:List (List Ent)}{np ct:Nat}{S:Pos->Prop}(h:RS H F files dirs np ct S)(k:Keep m H H')(hm:H.nx.toNat<=m) :RS H' F files dirs np ct S:=h.frame (fun p hp=>k.get p (by have:=h.lt p hp;omega)) k.nx
theorem z4j{α β:Type}{f:α->β} :∀ {l:List α} {m:List β} {b:β},l.map f=m++[b]->∃ l0 a,l=l0++[a]/\l0.map f=m/\f a=b:=fun {l m b} h=>by
 rcases List.eq_nil_or_concat l with rfl | ⟨l0,a,rfl⟩
 .simp at h
 .simp only[List.concat_eq_append,List.map_append,List.map_cons,List.map_nil]at h
  obtain⟨h1,h2⟩:=List.append_inj' h rfl
  exact⟨l0,a,by simp,h1,by simpa using h2⟩
section
variable{E:Env}(C:Ck E)
include C
theorem z62{H:AHeap}{v:AVal}{us:List Nat}(h:Rd 1 H v us.length (z0b us))(hl:us.length<=1000000000) :∃ w H',z0f E 28 [v] H w H'/\GO 1 H.nx.toNat H' w us.length (z0b us)/\Keep H.nx.toNat H H':=by
 obtain⟨w,H',e1,e2,e3⟩:=y3h (n:=us.length) (z:=.int .u8 (.ofNat 0)) (by':=1) (h.keep (H':=(H.new (.cells (repl [.int .u8 (.ofNat 0)] us.length) false false)).2) z0d lr).src (z1d us) (z3p us)
 refine C.c28.rr (by conv=>lhs;reduce) ?_
 simp(maxDischargeDepth:=9)only[auX,h.len,j2w (bytes:=1) (n:=0) (c:=us.length) (by omega),z0r e1]
 exact⟨e2,e3⟩
end
def hst(lens:List Nat) :List Nat->List Bool->Nat->Nat
 | [],_,n=>n
 | x::l,met,n=>if met.getD x false then hst lens l met n else hst lens l (met.set x true) (n+lens.getD x 0)
def z7o(l:List Bool) :List AVal:=l.map .bool
theorem j4c(l:List Bool)(x:Nat)(h:x<l.length) :lput (z7o l) x [.bool true]=some (z7o (l.set x true)):=by
 have hl:(z7o l).length=l.length:=by simp[z7o]
 rw[z36 _ _ _ (by simp[hl];omega)]
 congr 1
 unfold z7o
 rw[List.map_set,List.set_eq_take_append_cons_drop,if_pos (by simpa using h)]
 simp
theorem y33(n:Nat) :repl [.bool false] n=z7o (List.replicate n false):=by
 induction n with
 | zero=>rfl
 | succ n ih=>show[AVal.bool false]++repl [.bool false] n=_;rw[ih];rfl
theorem y89{ds:List DD}{i:Nat}(h:i<ds.length) :(ds.drop i).flatMap (fun d=>d.2.map (·.2))=ds[i].2.map (·.2)++(ds.drop (i+1)).flatMap (fun d=>d.2.map (·.2)):=by
 rw[List.drop_eq_getElem_cons h,List.flatMap_cons]
section
variable{E:Env}(C:Ck E)
include C
theorem k09{H:AHeap}{F:Pos}{vf vd vp:AVal}{fl:List FD}{ds:List DD}{np ct B:Nat}(h:RSt H F vf vd vp fl ds np ct)(hB:∀ f∈fl,f.2.1.length<=B)(hfl:fl.length<=1000)(hds:ds.length<=1000)(hes:∀ d∈ds,d.2.length<=1000)(hix:∀ d∈ds,∀ e∈d.2,e.2<fl.length)(hT:B*(ds.flatMap (fun d=>d.2.map (·.2))).length<=4611686018427387904) :
  ∃ w H',z0f E 55 [.ptr F 0] H w H'/\w=.int .i64 (.ofNat (hst (fl.map (·.2.1.length)) (ds.flatMap (fun d=>d.2.map (·.2))) (List.replicate fl.length false) 0))/\Keep H.nx.toNat H H':=by
 generalize hR:hst (fl.map (·.2.1.length)) (ds.flatMap (fun d=>d.2.map (·.2))) (List.replicate fl.length false) 0=R
 refine C.c55.rr (by conv=>lhs;reduce) ?_
 simp(maxDischargeDepth:=9)only[auX,zA,hl_g h.fs,h.gf.rd.len,j2w (bytes:=1) (n:=fl.length) (c:=fl.length) (by omega)]
 refine W.loopI (fun k t H'=>∃ i met n,i+k=ds.length/\PT.get .h t=some (.ptr F 0)/\PT.get (.o (.o .h)) t=some (.sl H.nx 0 fl.length fl.length 0)/\PT.get (.i (.o .h)) t=some (.int .i64 (.ofNat n))/\PT.get (.o (.i .h)) t=some (.int .i64 (.ofNat i))/\(∀ p,p≠H.nx->PT.get p H'.t=PT.get p (H.new (.cells (repl [.bool false] fl.length) false false)).2.t)/\PT.get H.nx H'.t=some (.cells (z7o met) false false)/\H'.nx=H.nx.succ/\met.length=fl.length/\hst (fl.map (·.2.1.length)) ((ds.drop i).flatMap (fun d=>d.2.map (·.2))) met n=R/\n+B*((ds.drop i).flatMap (fun d=>d.2.map (·.2))).length<=4611686018427387904) ?_ ds.length _ _ ⟨0,List.replicate fl.length false,0,by omega,rfl,rfl,rfl,rfl,fun _ _=>rfl,by rw[<-y33];exact z0i,rfl,by simp,hR,by rw[List.drop_zero];omega⟩
 rintro k t H' ⟨i,met,n,hi,g0,g3,g4,g5,hg,hq,hnx,hml,hr,hb⟩
 have hlt:H.nx.toNat<H'.nx.toNat:=by rw[hnx];exact z0h
 have kn:Keep H.nx.toNat H H':=⟨by omega,fun p hp=>by rw[hg p (fun e=>by rw[e]at hp;omega),z19 hp]⟩
 have h':=h.keep kn lr
 by_cases hk:k=0
 .rw[List.drop_eq_nil_of_le (by omega)]at hr
  simp(maxDischargeDepth:=9)only[auX,↓reduceIte,zA,g0,g4,g5,hl_g h'.fs,h'.gd.rd.len,show ¬ i<ds.length by omega]
  exact⟨by rw[<-hr];rfl,kn⟩
 .have hi2:i<ds.length:=by omega
  have hdm:ds[i]∈ds:=List.getElem_mem hi2
  rw[y89 hi2]at hr hb
  simp(maxDischargeDepth:=9)only[auX,zA,g0,g5,hl_g h'.fs,h'.gd.rd.len,hi2]
  refine W.loopI (fun k2 t H2=>∃ j met n,j+k2=ds[i].2.length/\PT.get .h t=some (.ptr F 0)/\PT.get (.o (.o .h)) t=some (.sl H.nx 0 fl.length fl.length 0)/\PT.get (.i (.o .h)) t=some (.int .i64 (.ofNat n))/\PT.get (.o (.i .h)) t=some (.int .i64 (.ofNat i))/\PT.get (.i (.i .h)) t=some (.int .i64 (.ofNat j))/\(∀ p,p≠H.nx->PT.get p H2.t=PT.get p (H.new (.cells (repl [.bool false] fl.length) false false)).2.t)/\PT.get H.nx H2.t=some (.cells (z7o met) false false)/\H2.nx=H.nx.succ/\met.length=fl.length/\hst (fl.map (·.2.1.length)) ((ds[i].2.drop j).map (·.2)++(ds.drop (i+1)).flatMap (fun d=>d.2.map (·.2))) met n=R/\n+B*((ds[i].2.drop j).map (·.2)++(ds.drop (i+1)).flatMap (fun d=>d.2.map (·.2))).length<=4611686018427387904) ?_ ds[i].2.length _ _ ⟨0,met,n,by omega,by simp(maxDischargeDepth:=9)only[auX,g0],by simp(maxDischargeDepth:=9)only[auX,g3],by simp(maxDischargeDepth:=9)only[auX,g4],by simp(maxDischargeDepth:=9)only[auX,g5],by simp(maxDischargeDepth:=9)only[auX],hg,hq,hnx,hml,hr,hb⟩
  clear hq hr hb hg hlt kn h'
  rintro k2 t H2 ⟨j,met,n,hj,g0,g3,g4,g5,g6,hg,hq,hnx,hml,hr,hb⟩
  have hlt:H.nx.toNat<H2.nx.toNat:=by rw[hnx];exact z0h
  have kn:Keep H.nx.toNat H H2:=⟨by omega,fun p hp=>by rw[hg p (fun e=>by rw[e]at hp;omega),z19 hp]⟩
  have h':=h.keep kn lr
  obtain⟨b1,o1,d1,d2⟩:=Rd.at1 h'.gd.rd (i:=i) (x:=ds[i].1) (by simp[hi2])
  have hdr:=h'.dirs _ hdm
  by_cases hk2:k2=0
  .rw[List.drop_eq_nil_of_le (by omega)]at hr hb
   simp(maxDischargeDepth:=9)only[auX,↓reduceIte,zA,g0,g3,g4,g5,g6,hl_g h'.fs,d1,d2,Rd.len hdr,show ¬ j<ds[i].2.length by omega,z0o (i:=i) (k:=1) (by omega)]
   exact⟨k-1,by omega,i+1,met,n,by omega,rfl,rfl,hg,hq,hnx,hml,hr,hb⟩
  .have hj2:j<ds[i].2.length:=by have:=hes _ hdm;omega
   have hj3:=hes _ hdm
   obtain⟨b2,o2,e1,e2,e3,e4⟩:=DirR.at hdr hj2
   have hx:=hix _ hdm _ (List.getElem_mem hj2)
   rw[List.drop_eq_getElem_cons hj2]at hr hb
   simp only[List.map_cons,List.cons_append,hst,List.length_cons]at hr hb
   generalize hxx:ds[i].2[j].2=x at *
   have m1:z2t 1 (.sl H.nx 0 fl.length fl.length 0) (.int .i64 (.ofNat x))=some (.ptr H.nx x):=by
    show(match Nat.blt x fl.length with | true=>some (AVal.ptr H.nx (0+x*1)) | false=>none)=_
    rw[y41 hx];simp
   have m2:z04 H2 H.nx x=some (.bool (met.getD x false)):=by
    rw[z9i hq,z5x]
    unfold z7o
    rw[List.getElem?_map,List.getD,List.getElem?_eq_getElem (by omega)]
    rfl
   have hA:=z0o (i:=j) (k:=1) (by omega)
   cases hm:met.getD x false
   .rw[hm]at hr m2
    simp only[Bool.false_eq_true,if_false]at hr
    obtain⟨bf,op,f1,f2,_,f3,_⟩:=h'.setF hx
    have m3:=z0z hq (vs:=[.bool true]) (o:=x) rfl (by rw[j4c _ _ (by omega)];rfl)
    rw[j4c _ _ (by omega),j7o]at m3
    have kn2:Keep H.nx.toNat H2 (H2.upd H.nx (.cells (z7o (met.set x true)) false false)):=z0s lr
    have h3:=(h.keep (kn.trans kn2) lr)
    obtain⟨bf',op',f1',f2',_,f3',_⟩:=h3.setF hx
    rw[f1]at f1'
    cases f1'
    have hfd:=(h3.data _ (List.getElem_mem hx)).1
    have hBx:=hB _ (List.getElem_mem hx)
    have hln:(fl.map (·.2.1.length)).getD x 0=fl[x].2.1.length:=by simp[List.getD,hx]
    rw[hln]at hr
    have hbb:n+fl[x].2.1.length<=9223372036854775807:=by
     have:B<=B*(((ds[i].2.drop (j+1)).map (·.2)++(ds.drop (i+1)).flatMap (fun d=>d.2.map (·.2))).length+1):=Nat.le_mul_of_pos_right _ (by omega)
     omega
    simp(maxDischargeDepth:=9)only[auX,zA,aZ,g0,g3,g4,g5,g6,hl_g h'.fs,hl_g h3.fs,d1,d2,Rd.len hdr,hj2,e1,e4,m1,m2,m3,f1,f3',hfd.len,z0o (i:=n) (k:=fl[x].2.1.length) hbb,hA]
    rw[Nat.mul_add,Nat.mul_one]at hb
    exact⟨k2-1,by omega,j+1,met.set x true,_,by omega,rfl,rfl,fun p hp=>by rw[z0a (fun e=>hp e.symm)];exact hg p hp,rfl,hnx,by simp[hml],hr,by omega⟩
   .rw[hm]at hr m2
    simp only[if_true]at hr
    simp(maxDischargeDepth:=9)only[auX,zA,g0,g3,g4,g5,g6,hl_g h'.fs,d1,d2,Rd.len hdr,hj2,e1,e4,m1,m2,hA]
    rw[Nat.mul_add,Nat.mul_one]at hb
    exact⟨k2-1,by omega,j+1,met,n,by omega,rfl,rfl,hg,hq,hnx,hml,hr,by omega⟩
end
end Go.Am
