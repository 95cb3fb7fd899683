import Derived.Test.YtepncpggenncoaaGreatDoorDc5
set_option linter.all false
set_option maxRecDepth 20000
set_option maxHeartbeats 8000000
namespace Go.Am
open Go Go.Proofs
theorem By.subT{H:AHeap}{v:AVal}{us:List Nat}(h:By H v us){a b:Nat}(ha:a<=b)(hb:b<=us.length) :∃ w,By H w ((us.drop a).take (b-a))/\(∀ p,blk w p->blk v p)/\∀ {t:PT AVal} {x y:AOpnd},x.ev t=.int .i64 (.ofNat a)->y.ev t=.int .i64 (.ofNat b)->z0w t (.sl 1) v (some x) (some y) none=some w:=by
 rcases Nat.eq_zero_or_pos us.length with h0 | h0
 .obtain rfl:a=0:=by omega
  obtain rfl:b=0:=by omega
  obtain rfl:us=[]:=List.eq_nil_of_length_eq_zero h0
  obtain⟨⟨hl,⟨rfl,_⟩ | ⟨p,o,c,z,rfl,hg,hz,hc,hlt⟩⟩,hu⟩:=h
  .exact⟨.snil,⟨⟨rfl,.inl ⟨rfl,rfl⟩⟩,fun u hu=>by cases hu⟩,fun q hq=>hq,fun hx hy=>by simp only[z0w,bo_s hx (Nat.le_refl 0),bo_s hy (Nat.le_refl 0),bo_n]⟩
  .rcases hz with rfl | rfl
   .refine⟨.sl p o 0 c 0,⟨⟨rfl,.inr ⟨p,o,c,0,rfl,hg,.inl rfl,hc,hlt⟩⟩,fun u hu=>by cases hu⟩,fun q hq=>hq,fun hx hy=>?_⟩
    simp only[z0w,bo_s hx (Nat.le_refl 0),bo_s hy (Nat.zero_le c),bo_n]
    cases Nat.beq c 0<;>rfl
   .refine⟨.sl p o 0 c 1,⟨⟨rfl,.inr ⟨p,o,c,1,rfl,hg,.inr rfl,hc,hlt⟩⟩,fun u hu=>by cases hu⟩,fun q hq=>hq,fun hx hy=>?_⟩
    simp only[z0w,bo_s hx (Nat.le_refl 0),bo_s hy (Nat.zero_le c),bo_n]
    rfl
 .obtain⟨w,h1,h2,h3,_⟩:=h.sub ha hb h0
  exact⟨w,h1,h2,h3⟩
theorem Bo.nil{N:Nat}{H:AHeap} :Bo N H .snil []:=⟨GO.nil,fun u hu=>by cases hu⟩
section
variable{E:Env}(C:CkS E)
include C
theorem y92{H:AHeap}{v:AVal}{us:List Nat}(h:By H v us)(hn:us.length<=100000000) :∃ w H',z0f E 119 [v] H w H'/\Bo H.nx.toNat H' w us/\Keep H.nx.toNat H H':=by
 have h':=h
 obtain⟨⟨hl,⟨rfl,h0⟩ | ⟨p,o,c,z,rfl,hg,hz,hc,hlt⟩⟩,hu⟩:=h
 .obtain rfl:us=[]:=List.eq_nil_of_length_eq_zero h0
  refine⟨.snil,H,?_,Bo.nil,Keep.refl _ _⟩
  refine C.c119.re (by conv=>lhs;reduce) ?_
  simp(maxDischargeDepth:=9)only[auX,es_n]
 .have k0:Keep H.nx.toNat H (H.new (.cells [] false false)).2:=z0d
  have L:=z5g (H:=H) [] (fun u hu=>by cases hu)
  obtain⟨w,H',a1,B1,K1⟩:=z7p L k0.nx (h'.keep k0 lr) (by simp;omega)
  have a1:z09 (H.new (.cells [] false false)).2 1 1 (.sl H.nx 0 0 0 0) (.sl p o us.length c z)=some (w,H'):=a1
  refine⟨w,H',?_,B1,k0.trans K1⟩
  refine C.c119.re (by conv=>lhs;reduce) ?_
  simp(maxDischargeDepth:=9)only[auX,es_s,z0r a1]
theorem y6q{H:AHeap}{F m l h:Pos}{pv:AVal}{fl:List PF}{nl np ct:Nat}(s:PSt H F m l h pv fl nl np ct){f:PF}(hf:f∈fl)(hn:IsNm f.nm)(hb:f.bs.length<=1000000)(a n:Nat)(ha:a<=1000000000)(hnn:n<=1000000000) :∃ w H',z0f E 114 [.ptr F 0,.str f.nm,.int .i64 (.ofNat a),.int .i64 (.ofNat n)] H (.tup [w,.int .i64 (.ofNat 0)]) H'/\Bo H.nx.toNat H' w ((f.bs.drop a).take n)/\Keep H.nx.toNat H H':=by
 have k0:Keep H.nx.toNat H (H.new (.cells [.str f.nm] false false)).2:=z0d
 have s0:=s.keep k0 lr
 obtain⟨f1,f2,_⟩:=s0.ff f hf
 obtain⟨w,w1,w2,w3⟩:=f2.subT (a:=min a f.bs.length) (b:=min a f.bs.length+min n (f.bs.length-min a f.bs.length)) (by omega) (by omega)
 have e1:(f.bs.drop (min a f.bs.length)).take (min a f.bs.length+min n (f.bs.length-min a f.bs.length)-min a f.bs.length)=(f.bs.drop a).take n:=by
  rw[show min a f.bs.length+min n (f.bs.length-min a f.bs.length)-min a f.bs.length=min n (f.bs.length-min a f.bs.length)by omega]
  rcases Nat.le_total a f.bs.length with h1 | h1
  .rw[Nat.min_eq_left h1]
   rcases Nat.le_total n (f.bs.length-a)with h2 | h2
   .rw[Nat.min_eq_left h2]
   .rw[Nat.min_eq_right h2,List.take_of_length_le (by simp),List.take_of_length_le (by simp;omega)]
  .rw[Nat.min_eq_right h1,List.drop_eq_nil_of_le lr,List.drop_eq_nil_of_le h1,List.take_nil,List.take_nil]
 rw[e1]at w1
 obtain⟨w',H',c1,B1,K1⟩:=y92 C w1 (by simp;omega)
 refine⟨w',H',?_,B1.mono k0.nx,k0.trans (K1.mono k0.nx)⟩
 refine C.c114.re (by conv=>lhs;reduce) ?_
 simp(maxDischargeDepth:=9)only[auX,bq,reduceCtorEq,aZ,Nat.reduceAnd,z0c (j5q C s hf hn),hl_g f1,f2.sc,y4g,z74 (i:=f.bs.length) (k:=min a f.bs.length) (by omega) (by omega),z0o (i:=min a f.bs.length) (k:=min n (f.bs.length-min a f.bs.length)) (by omega),w3,z0j c1,show ¬ a<0 by omega,show ¬ n<0 by omega]
theorem y1i{H:AHeap}{F m l h:Pos}{pv:AVal}{fl:List PF}{nl np ct:Nat}(s:PSt H F m l h pv fl nl np ct){nm:List Nat}(hf:nm∉fl.map PF.nm)(hn:IsNm nm)(a n:Int) :∃ H',z0f E 114 [.ptr F 0,.str nm,.int .i64 a,.int .i64 n] H (.tup [.snil,.int .i64 (.ofNat 82)]) H'/\Keep H.nx.toNat H H':=by
 have k0:Keep H.nx.toNat H (H.new (.cells [.str nm] false false)).2:=z0d
 refine⟨_,?_,k0⟩
 refine C.c114.re (by conv=>lhs;reduce) ?_
 simp(maxDischargeDepth:=9)only[auX,reduceCtorEq,z0c (q2h C s hf hn)]
end
theorem j9g{E:Env}{ds:List ADef}{d:Option Pos}{t:PT AVal}{H:AHeap}{l:List AOper}{Q:PT AVal->AHeap->Prop}{f:FuncId}{first mid caps:List AVal}{v:AVal}{H':AHeap}(h:z0f E f (first++(mid++caps)) H v H'){x:AOpnd}{args:List AOpnd}(hx:x.ev t=.func f first caps)(ha:evs t args=mid) :WO E ds (⟨d,.callV x args,none⟩::l) t H Q↔WO E ds l (tput t d v) H' Q:=q6z h hx (by rw[ha])
section
variable{E:Env}(C:CkS E)
include C
theorem q9t{H:AHeap}{F m l h:Pos}{pv:AVal}{fl:List PF}{nl np ct:Nat}(s:PSt H F m l h pv fl nl np ct)(hnp:np<=1000)(hct:ct<=100000){H2:AHeap}{q:Pos}{hes:List (AVal×AVal)}(hn2:H.nx.toNat<=H2.nx.toNat)
  (hg:∀ p:Pos,p.toNat<H.nx.toNat->p≠h->PT.get p H2.t=PT.get p H.t) (hq:H.nx.toNat<=q.toNat) (hq2:q.toNat<H2.nx.toNat) (hql:PT.get q H2.t=some (.cells [.snil,.int .i64 (.ofNat 0)] false false)) {nm:List Nat} (hnm:nm≠[]) (hnf:nm∉fl.map PF.nm) :
  ∃ pv' H',z0f E 72 [.ptr F 0,.ptr q 0,.str nm] H2 (.int .i64 (.ofNat 0)) H'/\PT.get F H'.t=some (.cells (PC m l pv' h (ct+1)) false false)/\PT.get m H'.t=some (.map (fl.map PF.nk++[(.str nm,.ptr q 0)]))/\(∃ cs,GS 1 H' pv' (np+1) cs)/\(∀ p,blk pv' p->H2.nx.toNat<=p.toNat)/\H2.nx.toNat<=H'.nx.toNat/\(∀ p:Pos,p.toNat<H2.nx.toNat->p≠F->p≠m->¬ blk pv p->PT.get p H'.t=PT.get p H2.t):=by
 have nd:=s.nd
 have top:=s.top
 simp only[List.nodup_cons,List.mem_cons,not_or]at nd
 obtain⟨⟨d1,d2,d3,d4⟩,⟨d5,d6,d7⟩,⟨d8,d9⟩,d10,d11⟩:=nd
 have tF:=top F (by simp)
 have tm:=top m (by simp)
 obtain⟨pcs,gp⟩:=s.gp
 have bF:¬ blk pv F:=fun e=>s.bp F e (by simp)
 have bm:¬ blk pv m:=fun e=>s.bp m e (by simp)
 have bh:¬ blk pv h:=fun e=>s.bp h e (by simp)
 generalize hX:H2=X at *
 have kx:Keep X.nx.toNat X (X.new (.cells [.ptr q 0] false false)).2:=z0d
 have ky:Keep _ _ ((X.new (.cells [.ptr q 0] false false)).2.new (.cells [.str nm] false false)).2:=z0d
 have lx:X.nx.toNat<(X.new (.cells [.ptr q 0] false false)).2.nx.toNat:=z0h
 have gx:PT.get X.nx ((X.new (.cells [.ptr q 0] false false)).2.new (.cells [.str nm] false false)).2.t=some (.cells [.ptr q 0] false false):=by rw[ky.get _ lx];exact z0i
 have gy:PT.get X.nx.succ ((X.new (.cells [.ptr q 0] false false)).2.new (.cells [.str nm] false false)).2.t=some (.cells [.str nm] false false):=z0i (H:=(X.new (.cells [.ptr q 0] false false)).2)
 have old:∀ p:Pos,p.toNat<X.nx.toNat->PT.get p ((X.new (.cells [.ptr q 0] false false)).2.new (.cells [.str nm] false false)).2.t=PT.get p X.t:=fun p hp=>by rw[ky.get _ (Nat.lt_of_lt_of_le hp kx.nx),kx.get _ hp]
 have nY:X.nx.toNat<=((X.new (.cells [.ptr q 0] false false)).2.new (.cells [.str nm] false false)).2.nx.toNat:=Nat.le_trans kx.nx ky.nx
 generalize hY:((X.new (.cells [.ptr q 0] false false)).2.new (.cells [.str nm] false false)).2=Y at *
 have gmY:PT.get m Y.t=some (.map (fl.map PF.nk)):=by rw[old m (by omega),hg m tm d6];exact s.gm
 have fsY:PT.get F Y.t=some (.cells (PC m l pv h ct) false false):=by rw[old F (by omega),hg F tF d3];exact s.fs
 have lq:live Y q=true:=j1z (by rw[old q hq2];exact hql)
 have hlv:∀ f∈fl,f.p≠q/\live Y f.p=true:=fun f hf=>by
  have tf:=top _ (PSt.mem f hf)
  refine⟨fun e=>by rw[e]at tf;omega,j1z (l:=[f.d,.int .i64 (.ofNat f.sy)]) ?_⟩
  rw[old _ (by omega),hg _ tf (fun e=>d10 (by rw[<-e];exact List.mem_map.2 ⟨f,hf,rfl⟩))]
  exact(s.ff f hf).1
 have cpend:z0f E 139 [.map m,.ptr X.nx 0,.ptr X.nx.succ 0] Y (.tup []) ((Y.bump.upd m (.map (fl.map PF.nk))).upd m (.map (fl.map PF.nk++[(.str nm,.ptr q 0)]))):=by
  refine z0f.sum C.s139 ?_
  unfold j60
  simp only[z9i gx,z9i gy,lget,gmY,y9n lq hlv]
  cases nm with
  | nil=>exact absurd rfl hnm
  | cons a b=>simp only[q4d hnf]
 obtain⟨Z,hZ⟩ :∃ Z,Z=(Y.bump.upd m (.map (fl.map PF.nk))).upd m (.map (fl.map PF.nk++[(.str nm,.ptr q 0)])):=⟨_,rfl⟩
 rw[<-hZ]at cpend
 have gZ:∀ p,p≠m->PT.get p Z.t=PT.get p Y.t:=fun p hp=>by rw[hZ,z0a (fun e=>hp e.symm),z0a (fun e=>hp e.symm)];rfl
 have gmZ:PT.get m Z.t=some (.map (fl.map PF.nk++[(.str nm,.ptr q 0)])):=by rw[hZ];exact z0q
 have nZ:Z.nx.toNat=Y.nx.toNat+1:=by rw[hZ];exact Pos.toNat_succ _
 have fsZ:PT.get F Z.t=some (.cells (PC m l pv h ct) false false):=by rw[gZ F d1];exact fsY
 have gpZ:GS 1 Z pv np pcs:=gp.other (fun p hp=>by rw[gZ p (fun e=>bm (e▸hp)),old p (by have:=gp.rd.blk_lt p hp;omega),hg p (gp.rd.blk_lt p hp) (fun e=>bh (e▸hp))]) (by omega)
 have kz:Keep Z.nx.toNat Z (Z.new (.cells [.func 139 [] [.ptr X.nx 0,.ptr X.nx.succ 0]] false false)).2:=z0d
 obtain⟨A,a1,a2,a3,a4⟩:=j4f (by omega) (by':=8) (gpZ.keep kz lr) (z9y (H:=Z) (k:=1) (row:=[.func 139 [] [.ptr X.nx 0,.ptr X.nx.succ 0]]) rfl) (by omega) rfl rfl (by omega)
 have lz:Z.nx.toNat<(Z.new (.cells [.func 139 [] [.ptr X.nx 0,.ptr X.nx.succ 0]] false false)).2.nx.toNat:=z0h
 have nA:A.nx.toNat=(Z.new (.cells [.func 139 [] [.ptr X.nx 0,.ptr X.nx.succ 0]] false false)).2.nx.toNat+1:=by rw[a3,Pos.toNat_succ]
 have oldA:∀ p:Pos,p.toNat<X.nx.toNat->p≠m->¬ blk pv p->PT.get p A.t=PT.get p X.t:=fun p h1 h2 h3=>by
  rw[a4 p (by omega) h3,kz.get _ (by omega),gZ p h2,old p h1]
 have fsA:PT.get F A.t=some (.cells (PC m l pv h ct) false false):=by rw[a4 F (by omega) bF,kz.get _ (by omega)];exact fsZ
 have gmA:PT.get m A.t=some (.map (fl.map PF.nk++[(.str nm,.ptr q 0)])):=by rw[a4 m (by omega) bm,kz.get _ (by omega)];exact gmZ
 have e1:(Z.new (.cells [.func 139 [] [.ptr X.nx 0,.ptr X.nx.succ 0]] false false)).2.nx=Z.nx.succ:=rfl
 generalize hpv:AVal.sl (Z.new (.cells [.func 139 [] [.ptr X.nx 0,.ptr X.nx.succ 0]] false false)).2.nx 0 (np+1) (np+1) 1=pv' at a1
 have psc:z1g pv'=true:=by rw[<-hpv];rfl
 have cc:=j5z C (H:=A.upd F (.cells (PC m l pv' h ct) false false)) (F:=F) (m:=m) (l:=l) (h:=h) (pv:=pv') (ct:=ct) z0q (by omega)
 have gF:∀ (p:Pos),p≠F->PT.get p ((A.upd F (.cells (PC m l pv' h ct) false false)).upd F (.cells (PC m l pv' h (ct+1)) false false)).t=PT.get p A.t:=fun p hp=>by rw[z0a (fun e=>hp e.symm),z0a (fun e=>hp e.symm)]
 refine⟨pv',((A.upd F (.cells (PC m l pv' h ct) false false)).upd F (.cells (PC m l pv' h (ct+1)) false false)),?_,z0q,by rw[gF m (fun e=>d1 e.symm)];exact gmA,⟨pcs++[.func 139 [] [.ptr X.nx 0,.ptr X.nx.succ 0]],?_⟩,?_,?_,?_⟩
 .subst hY
  refine C.c72.re (by conv=>lhs;reduce) ?_
  simp(maxDischargeDepth:=9)only[auX,zA,hl_g fsZ,j9g (first:=[]) (mid:=[.map m]) (caps:=[.ptr X.nx 0,.ptr X.nx.succ 0]) cpend,hl_g fsY,z0r a1,z0z fsA,psc,z0c cc]
 .refine⟨by rw[List.length_append,gp.1];rfl,.inr ⟨_,1,true,hpv.symm,?_,.inr rfl,?_⟩⟩
  .rw[gF _ (fun e=>by rw[e]at lz;omega)];exact a2
  .show _<A.nx.toNat;omega
 .rw[<-hpv];intro p hp;cases hp;omega
 .show _<=A.nx.toNat;omega
 .intro p h1 h2 h3 h4
  rw[gF p h2];exact oldA p h1 h3 h4
end
abbrev F3:=List Nat×List Nat×Nat
def PF.t(f:PF) :F3:=(f.nm,f.bs,f.sy)
def PS(H:AHeap)(F:Pos)(fs:List F3)(nl np ct:Nat)(S:Pos->Prop) :Prop:=∃ m l h pv fl,PSt H F m l h pv fl nl np ct/\fl.map PF.t=fs/\S=PSup F m l h pv fl
theorem PS.lt{H:AHeap}{F:Pos}{fs:List F3}{nl np ct:Nat}{S:Pos->Prop}(s:PS H F fs nl np ct S)(p:Pos)(hp:S p) :p.toNat<H.nx.toNat:=by
 obtain⟨m,l,h,pv,fl,s,_,rfl⟩:=s
 exact s.lt p hp
theorem PS.frame{H H':AHeap}{F:Pos}{fs:List F3}{nl np ct:Nat}{S:Pos->Prop}(s:PS H F fs nl np ct S)(hg:∀ p,S p->PT.get p H'.t=PT.get p H.t)(hn:H.nx.toNat<=H'.nx.toNat) :PS H' F fs nl np ct S:=by
 obtain⟨m,l,h,pv,fl,s,a,rfl⟩:=s
 exact⟨m,l,h,pv,fl,s.frame hg hn,a,rfl⟩
theorem PS.keep{M:Nat}{H H':AHeap}{F:Pos}{fs:List F3}{nl np ct:Nat}{S:Pos->Prop}(s:PS H F fs nl np ct S)(k:Keep M H H')(hm:H.nx.toNat<=M) :PS H' F fs nl np ct S:=s.frame (fun p hp=>k.get p (by have:=s.lt p hp;omega)) k.nx
theorem PF.names(fl:List PF) :(fl.map PF.t).map (·.1)=fl.map PF.nm:=by rw[List.map_map];rfl
theorem PF.at{fl:List PF}{fs:List F3}(e:fl.map PF.t=fs){nm us:List Nat}{k:Nat}(h:(nm,us,k)∈fs) :∃ f∈fl,f.nm=nm/\f.bs=us/\f.sy=k:=by
 rw[<-e]at h
 obtain⟨f,hf,e⟩:=List.mem_map.1 h
 unfold PF.t at e
 simp only[Prod.mk.injEq]at e
 exact⟨f,hf,e.1,e.2.1,e.2.2⟩
theorem IsNm.ne{nm:List Nat}(h:IsNm nm) :nm≠[]:=fun e=>by rw[e]at h;have:=h.1;simp at this
section
variable{E:Env}(C:CkS E)
include C
theorem y9v{N:Nat}{H:AHeap}{F:Pos}{fs:List F3}{nl np ct:Nat}{S:Pos->Prop}(s:PS H F fs nl np ct S)(hN:N<=H.nx.toNat)(hnp:np<=900)(hct:ct<=90000){nm:List Nat}(hn:IsNm nm)(hf:nm∉fs.map (·.1)) :∃ H' S',z0f E 25 [.ptr F 0,.str nm] H (.int .i64 (.ofNat 0)) H'/\PS H' F (fs++[(nm,[],0)]) nl (np+1) (ct+1) S'/\Step N S H S' H':=by
 obtain⟨m,l,h,pv,fl,s,rfl,rfl⟩:=s
 rw[PF.names]at hf
 have nd:=s.nd
 have top:=s.top
 simp only[List.nodup_cons,List.mem_cons,not_or]at nd
 obtain⟨⟨d1,d2,d3,d4⟩,⟨d5,d6,d7⟩,⟨d8,d9⟩,d10,d11⟩:=nd
 have tF:=top F (by simp)
 have tm:=top m (by simp)
 have tl:=top l (by simp)
 have th:=top h (by simp)
 have bh:¬ blk pv h:=fun e=>s.bp h e (by simp)
 have k0:Keep H.nx.toNat H (H.new (.cells [.str nm] false false)).2:=z0d
 have s0:=s.keep k0 lr
 have cb:=y0e C s0.fs (q:=H.nx) z0i hn
 have lk:=q1d (z:=.pnil) s0.gm (j5p hf)
 have k1:Keep _ _ ((H.new (.cells [.str nm] false false)).2.new (.cells [.snil,.int .i64 (.ofNat 0)] false false)).2:=z0d
 have s1:=s0.keep k1 lr
 have gq:PT.get H.nx.succ ((H.new (.cells [.str nm] false false)).2.new (.cells [.snil,.int .i64 (.ofNat 0)] false false)).2.t=some (.cells [.snil,.int .i64 (.ofNat 0)] false false):=z0i (H:=(H.new (.cells [.str nm] false false)).2)
 have n1:((H.new (.cells [.str nm] false false)).2.new (.cells [.snil,.int .i64 (.ofNat 0)] false false)).2.nx.toNat=H.nx.toNat+2:=by
  show H.nx.succ.succ.toNat=_
  rw[Pos.toNat_succ,Pos.toNat_succ]
 have nq:H.nx.succ.toNat=H.nx.toNat+1:=Pos.toNat_succ _
 have old1:∀ p:Pos,p.toNat<H.nx.toNat->PT.get p ((H.new (.cells [.str nm] false false)).2.new (.cells [.snil,.int .i64 (.ofNat 0)] false false)).2.t=PT.get p H.t:=fun p hp=>by rw[k1.get _ (Nat.lt_of_lt_of_le hp k0.nx),k0.get _ hp]
 have hpk:=y7e (q:=H.nx.succ) (v:=.bool true) (j1z gq) (fl:=fl) (fun f hf=>⟨fun e=>by have:=top _ (PSt.mem f hf);rw[e]at this;omega,j1z (s1.ff f hf).1⟩)
 obtain⟨H2,hH2⟩ :∃ H2,H2=((H.new (.cells [.str nm] false false)).2.new (.cells [.snil,.int .i64 (.ofNat 0)] false false)).2.upd h (.map (fl.map PF.hk++[(.ptr H.nx.succ 0,.bool true)])):=⟨_,rfl⟩
 have n2:H2.nx.toNat=H.nx.toNat+2:=by rw[hH2];exact n1
 have old2:∀ p:Pos,p.toNat<H.nx.toNat->p≠h->PT.get p H2.t=PT.get p H.t:=fun p hp hne=>by rw[hH2,z0a (fun e=>hne e.symm),old1 p hp]
 have gq2:PT.get H.nx.succ H2.t=some (.cells [.snil,.int .i64 (.ofNat 0)] false false):=by rw[hH2,z0a (fun e=>by have:=congrArg Pos.toNat e;omega)];exact gq
 have gh2:PT.get h H2.t=some (.map (fl.map PF.hk++[(.ptr H.nx.succ 0,.bool true)])):=by rw[hH2];exact z0q
 obtain⟨pv',H',cp,fF,fm,gp,bp,n3,fr⟩:=q9t C s (by omega) (by omega) (H2:=H2) (q:=H.nx.succ) (hes:=[]) (by omega) old2 (by omega) (by omega) gq2 hn.ne hf
 have tq:∀ q∈PL F m l h fl,q≠H.nx.succ:=fun q hq e=>by have:=top q hq;rw[e]at this;omega
 have frO:∀ p:Pos,p.toNat<H.nx.toNat->p≠F->p≠m->p≠h->¬ blk pv p->PT.get p H'.t=PT.get p H.t:=fun p h1 h2 h3 h4 h5=>by rw[fr p (by omega) h2 h3 h5,old2 p h1 h4]
 have mp:∀ f∈fl,f.p≠F/\f.p≠m/\f.p≠l/\f.p≠h:=fun f hf =>
  have hm:=List.mem_map.2 ⟨f,hf,rfl⟩
  ⟨fun e=>d4 (e▸hm),fun e=>d7 (e▸hm),fun e=>d9 (e▸hm),fun e=>d10 (e▸hm)⟩
 have ePL:PL F m l h (fl++[⟨nm,H.nx.succ,.snil,[],0⟩])=PL F m l h fl++[H.nx.succ]:=by simp[PL]
 have R:PSt H' F m l h pv' (fl++[⟨nm,H.nx.succ,.snil,[],0⟩]) nl (np+1) (ct+1):=by
  refine⟨fF,by rw[fm,List.map_append];rfl,?_,?_,gp,?_,?_,?_,?_,?_,?_,?_⟩
  .rw[List.take_append_of_le_length s.nl,frO l tl (fun e=>d2 e.symm) (fun e=>d5 e.symm) d8 (fun e=>s.bp l e (by simp))];exact s.gl
  .rw[fr h (by omega) (fun e=>d3 e.symm) (fun e=>d6 e.symm) bh,gh2,List.map_append];rfl
  .intro f hf'
   rcases List.mem_append.1 hf' with hf' | hf'
   .obtain⟨x1,x2,x3⟩:=s.ff f hf'
    obtain⟨y1,y2,y3,y4⟩:=mp f hf'
    refine⟨by rw[frO f.p (top _ (PSt.mem f hf')) y1 y2 y4 (fun e=>s.bp _ e (PSt.mem f hf'))];exact x1,x2.other (fun p hp=>?_) (by omega),x3⟩
    have hb:=s.bd f hf' p hp
    simp only[PL,List.mem_cons,not_or]at hb
    exact frO p (x2.1.blk_lt p hp) hb.1.1 hb.1.2.1 hb.1.2.2.2.1 hb.2
   .obtain rfl:f=⟨nm,H.nx.succ,.snil,[],0⟩:=by simpa using hf'
    refine⟨?_,⟨⟨rfl,.inl ⟨rfl,rfl⟩⟩,fun u hu=>by cases hu⟩,fun _=>rfl⟩
    show PT.get H.nx.succ H'.t=_
    rw[fr H.nx.succ (by omega) (fun e=>tq F (by simp) e.symm) (fun e=>tq m (by simp) e.symm) (fun e=>by obtain⟨cs,g⟩:=s.gp;have:=g.rd.blk_lt _ e;omega)]
    exact gq2
  .rw[ePL,List.nodup_append]
   exact⟨s.nd,by simp,fun a ha b hb=>by
    have:b=H.nx.succ:=by simpa using hb
    rw[this];exact tq a ha⟩
  .intro q hq
   rw[ePL]at hq
   rcases List.mem_append.1 hq with hq | hq
   .have:=top q hq;omega
   .have:q=H.nx.succ:=by simpa using hq
    rw[this];omega
  .intro q hq hq2
   rw[ePL]at hq2
   have:=bp q hq
   rcases List.mem_append.1 hq2 with hq2 | hq2
   .have:=top q hq2;omega
   .have e:q=H.nx.succ:=by simpa using hq2
    rw[e]at this;omega
  .intro f hf' q hq
   rw[ePL]
   rcases List.mem_append.1 hf' with hf' | hf'
   .have hlt:=(s.ff f hf').2.1.1.blk_lt q hq
    refine⟨fun e=>?_,fun e=>by have:=bp q e;omega⟩
    rcases List.mem_append.1 e with e | e
    .exact(s.bd f hf' q hq).1 e
    .have e:q=H.nx.succ:=by simpa using e
     rw[e]at hlt;omega
   .obtain rfl:f=⟨nm,H.nx.succ,.snil,[],0⟩:=by simpa using hf'
    cases hq
  .rw[List.map_append,List.nodup_append]
   exact⟨s.nn,by simp,fun a ha b hb=>by
    have:b=nm:=by simpa using hb
    rw[this];exact fun e=>hf (e▸ha)⟩
  .have:=s.nl;simp;omega
 refine⟨H',_,?_,⟨m,l,h,pv',_,R,by simp[PF.t],rfl⟩,by omega,fun p hp hs=>?_,?_,R.lt⟩
 .rw[hH2]at cp
  refine C.c25.re (by conv=>lhs;reduce) ?_
  simp(maxDischargeDepth:=9)only[auX,zA,z0c cb,hl_g s0.fs,lk,ep_n,hl_g s1.fs,j9f s1.gh hpk,show z3o .ptr (.ptr H.nx.succ 0)=true from rfl,show j7u (.c (.bool true))=false from rfl,z0c cp]
 .have h1:p∉PL F m l h fl:=fun e=>hs (.inl e)
  simp only[PL,List.mem_cons,not_or]at h1
  exact frO p (by omega) h1.1 h1.2.1 h1.2.2.2.1 (fun e=>hs (.inr (.inl e)))
 .rintro p (hp | hp | ⟨f,hf',hp⟩)
  .rw[ePL]at hp
   rcases List.mem_append.1 hp with hp | hp
   .exact .inl (.inl hp)
   .have:p=H.nx.succ:=by simpa using hp
    exact .inr (by rw[this];omega)
  .exact .inr (by have:=bp p hp;omega)
  .rcases List.mem_append.1 hf' with hf' | hf'
   .exact .inl (.inr (.inr ⟨f,hf',hp⟩))
   .obtain rfl:f=⟨nm,H.nx.succ,.snil,[],0⟩:=by simpa using hf'
    cases hp
end
instance:DecidableEq Pos:=fun a b=>decidable_of_iff (Pos.beq a b=true) Pos.beq_eq
def updF(fl:List PF)(p:Pos)(d:AVal)(bs:List Nat)(sy:Nat) :List PF:=fl.map fun g=>if g.p=p then⟨g.nm,g.p,d,bs,sy⟩else g
theorem q8w(fl:List PF)(p:Pos)(d:AVal)(bs:List Nat)(sy:Nat) :(updF fl p d bs sy).map PF.p=fl.map PF.p/\(updF fl p d bs sy).map PF.nm=fl.map PF.nm/\(updF fl p d bs sy).map PF.nk=fl.map PF.nk/\(updF fl p d bs sy).map PF.hk=fl.map PF.hk/\∀ n,((updF fl p d bs sy).take n).map PF.nk=(fl.take n).map PF.nk:=by
 have e:∀ g:PF,(if g.p=p then(⟨g.nm,g.p,d,bs,sy⟩ :PF)else g).p=g.p/\(if g.p=p then(⟨g.nm,g.p,d,bs,sy⟩ :PF)else g).nm=g.nm:=fun g=>by split<;>exact⟨rfl,rfl⟩
 unfold updF
 refine⟨?_,?_,?_,?_,fun n=>?_⟩
 .rw[List.map_map];exact List.map_congr_left fun g _=>(e g).1
 .rw[List.map_map];exact List.map_congr_left fun g _=>(e g).2
 .rw[List.map_map];exact List.map_congr_left fun g _=>by simp only[Function.comp,PF.nk,(e g).1,(e g).2]
 .rw[List.map_map];exact List.map_congr_left fun g _=>by simp only[Function.comp,PF.hk,(e g).1]
 .rw[<-List.map_take,List.map_map];exact List.map_congr_left fun g _=>by simp only[Function.comp,PF.nk,(e g).1,(e g).2]
theorem j9e:∀ {fl:List PF},(fl.map PF.p).Nodup->∀ {f g:PF},f∈fl->g∈fl->f.p=g.p->f=g
 | [],_,_,_,h,_,_=>by cases h
 | a::fl,hn,f,g,hf,hg,e=>by
  simp only[List.map_cons,List.nodup_cons]at hn
  rcases List.mem_cons.1 hf with hf1 | hf1<;>rcases List.mem_cons.1 hg with hg1 | hg1
  .rw[hf1,hg1]
  .exact absurd (by rw[<-hf1,e];exact List.mem_map.2 ⟨g,hg1,rfl⟩) hn.1
  .exact absurd (by rw[<-hg1,<-e];exact List.mem_map.2 ⟨f,hf1,rfl⟩) hn.1
  .exact j9e hn.2 hf1 hg1 e
theorem q4l:∀ {fl:List PF},(fl.map PF.nm).Nodup->∀ {f g:PF},f∈fl->g∈fl->f.nm=g.nm->f=g
 | [],_,_,_,h,_,_=>by cases h
 | a::fl,hn,f,g,hf,hg,e=>by
  simp only[List.map_cons,List.nodup_cons]at hn
  rcases List.mem_cons.1 hf with hf1 | hf1<;>rcases List.mem_cons.1 hg with hg1 | hg1
  .rw[hf1,hg1]
  .exact absurd (by rw[<-hf1,e];exact List.mem_map.2 ⟨g,hg1,rfl⟩) hn.1
  .exact absurd (by rw[<-hg1,<-e];exact List.mem_map.2 ⟨f,hf1,rfl⟩) hn.1
  .exact q4l hn.2 hf1 hg1 e
theorem q3m{fl:List PF}(hn:(fl.map PF.nm).Nodup)(hp:(fl.map PF.p).Nodup){f:PF}(hf:f∈fl)(d:AVal)(bs:List Nat)(sy:Nat) :(updF fl f.p d bs sy).map PF.t=(fl.map PF.t).map fun t=>if t.1=f.nm then(t.1,bs,sy)else t:=by
 unfold updF
 rw[List.map_map,List.map_map]
 refine List.map_congr_left fun g hg=>?_
 simp only[Function.comp]
 by_cases h:g.p=f.p
 .obtain rfl:=j9e hp hg hf h
  rw[if_pos rfl]
  unfold PF.t
  simp
 .rw[if_neg h,if_neg (fun e=>h (by rw[q4l hn hg hf e]))]
section
variable{N:Nat}{H:AHeap}{F m l h:Pos}{pv:AVal}{fl:List PF}{nl np ct:Nat}
theorem PSt.ne(s:PSt H F m l h pv fl nl np ct) :m≠F/\l≠F/\h≠F/\l≠m/\h≠m/\h≠l/\(∀ f∈fl,f.p≠F/\f.p≠m/\f.p≠l/\f.p≠h)/\(fl.map PF.p).Nodup:=by
 have nd:=s.nd
 simp only[List.nodup_cons,List.mem_cons,not_or]at nd
 obtain⟨⟨d1,d2,d3,d4⟩,⟨d5,d6,d7⟩,⟨d8,d9⟩,d10,d11⟩:=nd
 refine⟨fun e=>d1 e.symm,fun e=>d2 e.symm,fun e=>d3 e.symm,fun e=>d5 e.symm,fun e=>d6 e.symm,fun e=>d8 e.symm,fun f hf=>?_,d11⟩
 have hm:f.p∈fl.map PF.p:=List.mem_map.2 ⟨f,hf,rfl⟩
 exact⟨fun e=>d4 (e▸hm),fun e=>d7 (e▸hm),fun e=>d9 (e▸hm),fun e=>d10 (e▸hm)⟩
theorem PSt.setF(s:PSt H F m l h pv fl nl np ct){f:PF}(hf:f∈fl){d:AVal}{bs:List Nat}(sy:Nat)(hd:By H d bs)(he:bs=[]->d=.snil)(hb:∀ q,blk d q->(q∉PL F m l h fl/\¬ blk pv q)/\(PSup F m l h pv fl q\/N<=q.toNat)) :PSt (H.upd f.p (.cells [d,.int .i64 (.ofNat sy)] false false)) F m l h pv (updF fl f.p d bs sy) nl np ct/\Step N (PSup F m l h pv fl) H (PSup F m l h pv (updF fl f.p d bs sy)) (H.upd f.p (.cells [d,.int .i64 (.ofNat sy)] false false)):=by
 obtain⟨u1,u2,u3,u4,u5⟩:=q8w fl f.p d bs sy
 obtain⟨x1,x2,x3,x4,x5,x6,x7,x8⟩:=s.ne
 have y:=x7 f hf
 have hg:∀ q,q≠f.p->PT.get q (H.upd f.p (.cells [d,.int .i64 (.ofNat sy)] false false)).t=PT.get q H.t:=fun q hq=>z0a (fun e=>hq e.symm)
 have ePL:PL F m l h (updF fl f.p d bs sy)=PL F m l h fl:=by simp only[PL,u1]
 have hfm:=PSt.mem (F:=F) (m:=m) (l:=l) (h:=h) f hf
 obtain⟨pcs,gp⟩:=s.gp
 have mem:∀ g,g∈updF fl f.p d bs sy->(g∈fl/\g.p≠f.p)\/g=⟨f.nm,f.p,d,bs,sy⟩:=fun g hg=>by
  obtain⟨a,ha,e⟩:=List.mem_map.1 hg
  by_cases h:a.p=f.p
  .rw[if_pos h]at e
   obtain rfl:=j9e x8 ha hf h
   exact .inr e.symm
  .rw[if_neg h]at e
   subst e
   exact .inl ⟨ha,h⟩
 have R:PSt (H.upd f.p (.cells [d,.int .i64 (.ofNat sy)] false false)) F m l h pv (updF fl f.p d bs sy) nl np ct:=by
  refine⟨(hg F (fun e=>y.1 e.symm)).trans s.fs,by rw[u3,hg m (fun e=>y.2.1 e.symm)];exact s.gm,by rw[u5,hg l (fun e=>y.2.2.1 e.symm)];exact s.gl,by rw[u4,hg h (fun e=>y.2.2.2 e.symm)];exact s.gh,⟨pcs,gp.other (fun q hq=>hg q (fun e=>s.bp q hq (e▸hfm))) lr⟩,?_,by rw[ePL];exact s.nd,by rw[ePL];exact s.top,by rw[ePL];exact s.bp,?_,by rw[u2];exact s.nn,by unfold updF;rw[List.length_map];exact s.nl⟩
  .intro g hg'
   rcases mem g hg' with⟨h1,h2⟩ | rfl
   .obtain⟨z1,z2,z3⟩:=s.ff g h1
    exact⟨(hg g.p h2).trans z1,z2.other (fun q hq=>hg q (fun e=>(s.bd g h1 q hq).1 (e▸hfm))) lr,z3⟩
   .exact⟨z0q,hd.other (fun q hq=>hg q (fun e=>(hb q hq).1.1 (e▸hfm))) lr,he⟩
  .intro g hg' q hq
   rw[ePL]
   rcases mem g hg' with⟨h1,h2⟩ | rfl
   .exact s.bd g h1 q hq
   .exact(hb q hq).1
 refine⟨R,lr,fun q _ hq=>hg q (fun e=>hq (.inl (e▸hfm))),?_,R.lt⟩
 rintro q (hq | hq | ⟨g,hg',hq⟩)
 .rw[ePL]at hq;exact .inl (.inl hq)
 .exact .inl (.inr (.inl hq))
 .rcases mem g hg' with⟨h1,h2⟩ | rfl
  .exact .inl (.inr (.inr ⟨g,h1,hq⟩))
  .exact(hb q hq).2
theorem PSt.setC(s:PSt H F m l h pv fl nl np ct)(ct':Nat) :PSt (H.upd F (.cells (PC m l pv h ct') false false)) F m l h pv fl nl np ct'/\Step N (PSup F m l h pv fl) H (PSup F m l h pv fl) (H.upd F (.cells (PC m l pv h ct') false false)):=by
 obtain⟨x1,x2,x3,x4,x5,x6,x7,x8⟩:=s.ne
 have hg:∀ q,q≠F->PT.get q (H.upd F (.cells (PC m l pv h ct') false false)).t=PT.get q H.t:=fun q hq=>z0a (fun e=>hq e.symm)
 obtain⟨pcs,gp⟩:=s.gp
 have R:PSt (H.upd F (.cells (PC m l pv h ct') false false)) F m l h pv fl nl np ct':=⟨z0q,(hg m x1).trans s.gm,(hg l x2).trans s.gl,(hg h x3).trans s.gh,⟨pcs,gp.other (fun q hq=>hg q (fun e=>s.bp q hq (by simp[e]))) lr⟩,fun f hf=>⟨(hg f.p (x7 f hf).1).trans (s.ff f hf).1,(s.ff f hf).2.1.other (fun q hq=>hg q (fun e=>(s.bd f hf q hq).1 (by simp[e]))) lr,(s.ff f hf).2.2⟩,s.nd,s.top,s.bp,s.bd,s.nn,s.nl⟩
 exact⟨R,lr,fun q _ hq=>hg q (fun e=>hq (.inl (by simp[e]))),fun q hq=>.inl hq,R.lt⟩
end
section
variable{E:Env}(C:CkS E)
include C
theorem q51{N:Nat}{H:AHeap}{F:Pos}{fs:List F3}{nl np ct:Nat}{S:Pos->Prop}(s:PS H F fs nl np ct S)(hN:N<=H.nx.toNat)(hct:ct<=90000){nm us:List Nat}{k:Nat}(hn:IsNm nm)(hf:(nm,us,k)∈fs) :∃ H' S',z0f E 30 [.ptr F 0,.str nm] H (.int .i64 (.ofNat 0)) H'/\PS H' F (fs.map fun t=>if t.1=nm then(t.1,us,us.length)else t) nl np (ct+1) S'/\Step N S H S' H':=by
 obtain⟨m,l,h,pv,fl,s,rfl,rfl⟩:=s
 obtain⟨f,hf',e1,e2,e3⟩:=PF.at rfl hf
 clear hf
 subst e1 e2 e3
 have hf:=hf'
 have k0:Keep H.nx.toNat H (H.new (.cells [.str f.nm] false false)).2:=z0d
 have s0:=s.keep k0 lr
 obtain⟨s1,t1⟩:=s0.setC (N:=N) (ct+1)
 obtain⟨f1,f2,f3⟩:=s1.ff f hf
 have hb:=s1.bd f hf
 obtain⟨s2,t2⟩:=s1.setF (N:=N) hf f.bs.length f2 f3 (fun q hq=>⟨hb q hq,.inl (.inr (.inr ⟨f,hf,hq⟩))⟩)
 have st:=z0z f1 (o:=1) (vs:=[.int .i64 (.ofNat f.bs.length)]) rfl rfl
 refine⟨_,_,?_,⟨m,l,h,pv,_,s2,q3m s.nn s.ne.2.2.2.2.2.2.2 hf _ _ _,rfl⟩,((k0.mono hN).step s.lt |>.trans t1).trans t2⟩
 refine C.c30.re (by conv=>lhs;reduce) ?_
 simp(maxDischargeDepth:=9)only[auX,zA,aZ,z0c (j5q C s hf hn),z0c (j5z C s0.fs (by omega)),hl_g f1,f2.sc,st]
theorem q0c{N:Nat}{H:AHeap}{F:Pos}{fs:List F3}{nl np ct:Nat}{S:Pos->Prop}(s:PS H F fs nl np ct S)(hN:N<=H.nx.toNat)(hct:ct<=90000){nm:List Nat}{k:Nat}(hn:IsNm nm)(hf:(nm,[],k)∈fs){v:AVal}{us:List Nat}(hv:By H v us)(hu:us.length<=1000000)(hr:(fs.map (·.2.1.length)).sum+us.length<=2147483647) :∃ H' S',z0f E 27 [.ptr F 0,.str nm,v] H (.int .i64 (.ofNat 0)) H'/\PS H' F (fs.map fun t=>if t.1=nm then(t.1,us,k)else t) nl np (ct+1) S'/\Step N S H S' H':=by
 obtain⟨m,l,h,pv,fl,s,rfl,rfl⟩:=s
 obtain⟨f,hf',e1,hb0,e3⟩:=PF.at rfl hf
 clear hf
 subst e1 e3
 have hf:=hf'
 have k0:Keep H.nx.toNat H (H.new (.cells [.str f.nm] false false)).2:=z0d
 have s0:=s.keep k0 lr
 have e0:((fl.map PF.t).map (·.2.1.length))=fl.map (·.bs.length):=by rw[List.map_map];rfl
 rw[e0]at hr
 have ch:=y8z C s0 (by omega)
 have kb:Keep (H.new (.cells [.str f.nm] false false)).2.nx.toNat (H.new (.cells [.str f.nm] false false)).2 (H.new (.cells [.str f.nm] false false)).2.bump:=⟨Nat.le_of_lt (z0h (a:=(H.new (.cells [.str f.nm] false false)).2.nx)),fun p _=>rfl⟩
 have sb:=s0.keep kb lr
 have hvb:=(hv.keep k0 lr).keep kb lr
 obtain⟨f1,f2,f3⟩:=sb.ff f hf
 have fd:=f3 hb0
 have k0n:=k0.nx
 have kbn:=kb.nx
 obtain⟨w,H1,a1,B1,K1,we⟩ :∃ w H1,z09 (H.new (.cells [.str f.nm] false false)).2.bump 1 1 .snil v=some (w,H1)/\Bo (H.new (.cells [.str f.nm] false false)).2.bump.nx.toNat H1 w us/\Keep (H.new (.cells [.str f.nm] false false)).2.bump.nx.toNat (H.new (.cells [.str f.nm] false false)).2.bump H1/\(us=[]->w=.snil):=by
  by_cases hz:us=[]
  .subst hz
   refine⟨.snil,_,?_,Bo.nil,Keep.refl _ _,fun _=>rfl⟩
   unfold z09
   have:=hvb.1.src
   simp only[List.length_nil]at this
   simp only[this]
  .obtain⟨w,H1,a,b,c⟩:=z7p (N:=(H.new (.cells [.str f.nm] false false)).2.bump.nx.toNat) Bo.nil lr hvb (by simp;omega)
   exact⟨w,H1,a,by simpa using b,c,fun e=>absurd e hz⟩
 have s1:=sb.keep K1 lr
 obtain⟨g1,g2,g3⟩:=s1.ff f hf
 obtain⟨s2,t2⟩:=s1.setF (N:=N) hf f.sy B1.by we (fun q hq=>by
  have hq1:=B1.1.2 q hq
  refine⟨⟨fun e=>?_,fun e=>?_⟩,.inr (by omega)⟩
  .have:=sb.top q e;omega
  .have:=sb.lt q (.inr (.inl e));omega)
 have st:=z0z g1 (o:=0) (vs:=[w]) (by rw[z0p B1.by.sc.2.1];rfl) rfl
 have cc:=j5z C s2.fs (by omega)
 obtain⟨s3,t3⟩:=s2.setC (N:=N) (ct+1)
 refine⟨_,_,?_,⟨m,l,h,pv,_,s3,q3m s.nn s.ne.2.2.2.2.2.2.2 hf _ _ _,rfl⟩,((((k0.mono hN).trans (kb.mono (by omega))).trans (K1.mono (by omega))).step s.lt |>.trans t2).trans t3⟩
 rw[fd]at f1 g1
 refine C.c27.re (by conv=>lhs;reduce) ?_
 simp(maxDischargeDepth:=9)only[auX,reduceCtorEq,aZ,Nat.reduceAnd,z0c (j5q C s hf hn),hl_g s0.fs,hl_g sb.fs,hv.sc,z0j ch,z74 (i:=2147483647) (k:=(fl.map (·.bs.length)).sum) (by omega) (by omega),show ¬ 2147483647-(fl.map (·.bs.length)).sum<us.length by omega,hl_g f1,z0r a1,z0z g1 (o:=0),B1.by.sc,z0c cc]
end
theorem j2k{H:AHeap}{q:Pos}(hq:live H q=true) :∀ {fl:List PF},(∀ f∈fl,f.p≠q/\live H f.p=true)->z7g H (.ptr q 0) ((fl.map PF.nk).map (·.2))=true
 | [],_=>rfl
 | f::fl,hl=>by
  have h1:=hl f (by simp)
  have:=j2k hq (fl:=fl) (fun g hg=>hl g (by simp[hg]))
  simp only[List.map_cons,PF.nk,z7g,j5u (fun e=>h1.1 e.symm) hq h1.2,j5u h1.1 h1.2 hq]
  exact this
theorem j4h{H:AHeap} :∀ {fl:List PF},(fl.map PF.p).Nodup->(∀ f∈fl,live H f.p=true)->z9t H ((fl.map PF.nk).map (·.2))=true
 | [],_,_=>rfl
 | f::fl,hn,hl=>by
  simp only[List.map_cons,List.nodup_cons]at hn
  have:=j4h (H:=H) hn.2 (fun g hg=>hl g (by simp[hg]))
  have h2:=j2k (hl f (by simp)) (fl:=fl) (fun g hg=>⟨fun e=>hn.1 (e▸List.mem_map.2 ⟨g,hg,rfl⟩),hl g (by simp[hg])⟩)
  simp only[List.map_cons,PF.nk,z9t]
  simp only[h2,this]
theorem y71(fl:List PF) :j7m (fl.map PF.nk)=fl.map PF.hk:=by unfold j7m;rw[List.map_map];rfl
section
variable{E:Env}(C:CkS E)
include C
theorem y3u{N:Nat}{H:AHeap}{F:Pos}{fs:List F3}{nl np ct:Nat}{S:Pos->Prop}(s:PS H F fs nl np ct S)(hN:N<=H.nx.toNat)(hct:ct<=90000) :∃ H' S',z0f E 32 [.ptr F 0] H (.int .i64 (.ofNat 0)) H'/\PS H' F fs fs.length 0 (ct+1) S'/\Step N S H S' H':=by
 obtain⟨m,l,h,pv,fl,s,rfl,rfl⟩:=s
 obtain⟨s1,t1⟩:=s.setC (N:=N) (ct+1)
 have cc:=j5z C s.fs (by omega)
 generalize hH1:H.upd F (.cells (PC m l pv h (ct+1)) false false)=H1 at *
 have hn1:H1.nx=H.nx:=by rw[<-hH1];rfl
 obtain⟨x1,x2,x3,x4,x5,x6,x7,x8⟩:=s1.ne
 have top:=s1.top
 have tF:=top F (by simp)
 have tm:=top m (by simp)
 obtain⟨A,hA⟩ :∃ A,A=(H1.new (.map (fl.map PF.nk))).2:=⟨_,rfl⟩
 have kA:Keep H1.nx.toNat H1 A:=by rw[hA];exact z0d
 have nA:A.nx=H1.nx.succ:=by rw[hA];rfl
 have nA':A.nx.toNat=H1.nx.toNat+1:=by rw[nA,Pos.toNat_succ]
 have gA:PT.get H1.nx A.t=some (.map (fl.map PF.nk)):=by rw[hA];exact z0i
 have fA:PT.get F A.t=some (.cells (PC m l pv h (ct+1)) false false):=by rw[kA.get _ tF];exact s1.fs
 obtain⟨Bp,hB⟩ :∃ Bp,Bp=A.upd F (.cells [.int .i64 (.ofNat 2147483647),.map m,.map H1.nx,pv,.map h,.bool false,.int .i64 (.ofNat 0),.int .i64 (.ofNat (ct+1))] false false):=⟨_,rfl⟩
 have sB:z05 A F (Nat.add 0 2) [.map H1.nx]=some Bp:=by rw[z0z fA rfl rfl,hB];rfl
 have fB:PT.get F Bp.t=some (.cells [.int .i64 (.ofNat 2147483647),.map m,.map H1.nx,pv,.map h,.bool false,.int .i64 (.ofNat 0),.int .i64 (.ofNat (ct+1))] false false):=by rw[hB];exact z0q
 obtain⟨Cp,hC⟩ :∃ Cp,Cp=Bp.upd F (.cells [.int .i64 (.ofNat 2147483647),.map m,.map H1.nx,.snil,.map h,.bool false,.int .i64 (.ofNat 0),.int .i64 (.ofNat (ct+1))] false false):=⟨_,rfl⟩
 have sC:z05 Bp F (Nat.add 0 3) [.snil]=some Cp:=by rw[z0z fB rfl rfl,hC];rfl
 have fC:PT.get F Cp.t=some (.cells [.int .i64 (.ofNat 2147483647),.map m,.map H1.nx,.snil,.map h,.bool false,.int .i64 (.ofNat 0),.int .i64 (.ofNat (ct+1))] false false):=by rw[hC];exact z0q
 have nC:Cp.nx=A.nx:=by rw[hC,hB];rfl
 obtain⟨D,hD⟩ :∃ D,D=(Cp.new (.map [])).2:=⟨_,rfl⟩
 have kD:Keep Cp.nx.toNat Cp D:=by rw[hD];exact z0d
 have nD:D.nx.toNat=A.nx.toNat+1:=by rw[hD];show Cp.nx.succ.toNat=_;rw[nC,Pos.toNat_succ]
 have gD:PT.get A.nx D.t=some (.map []):=by rw[hD,<-nC];exact z0i
 have fD:PT.get F D.t=some (.cells [.int .i64 (.ofNat 2147483647),.map m,.map H1.nx,.snil,.map h,.bool false,.int .i64 (.ofNat 0),.int .i64 (.ofNat (ct+1))] false false):=by rw[kD.get _ (by rw[nC];omega)];exact fC
 obtain⟨G,hG⟩ :∃ G,G=D.upd F (.cells (PC m H1.nx .snil A.nx (ct+1)) false false):=⟨_,rfl⟩
 have sG:z05 D F (Nat.add 0 4) [.map A.nx]=some G:=by rw[z0z fD rfl rfl,hG];rfl
 have fG:PT.get F G.t=some (.cells (PC m H1.nx .snil A.nx (ct+1)) false false):=by rw[hG];exact z0q
 have gG:∀ p,p≠F->PT.get p G.t=PT.get p D.t:=fun p hp=>by rw[hG,z0a (fun e=>hp e.symm)]
 have gDC:∀ p:Pos,p.toNat<A.nx.toNat->p≠F->PT.get p D.t=PT.get p A.t:=fun p h1 h2=>by rw[kD.get _ (by rw[nC];exact h1),hC,z0a (fun e=>h2 e.symm),hB,z0a (fun e=>h2 e.symm)]
 have old:∀ p:Pos,p.toNat<H1.nx.toNat->p≠F->PT.get p G.t=PT.get p H1.t:=fun p h1 h2=>by rw[gG p h2,gDC p (by omega) h2,kA.get _ h1]
 have nF1:A.nx≠F:=fun e=>by rw[<-e]at tF;omega
 have nF2:H1.nx≠F:=fun e=>by rw[<-e]at tF;omega
 have gmG:PT.get m G.t=some (.map (fl.map PF.nk)):=by rw[old m tm x1];exact s1.gm
 have ghG:PT.get A.nx G.t=some (.map []):=by rw[gG _ nF1];exact gD
 have glG:PT.get H1.nx G.t=some (.map (fl.map PF.nk)):=by rw[gG _ nF2,gDC _ (by omega) nF2];exact gA
 have lv:∀ f∈fl,live G.bump f.p=true:=fun f hf=>j1z (l:=[f.d,.int .i64 (.ofNat f.sy)]) (by
  show PT.get f.p G.t=_
  rw[old f.p (top _ (PSt.mem f hf)) (x7 f hf).1];exact(s1.ff f hf).1)
 have hset:z5p [.ptr F 0] H1=some (.tup [],G.bump.upd A.nx (.map (fl.map PF.hk))):=by
  have a1:z04 H1 F (Nat.add 0 1)=some (.map m):=by rw[z9i s1.fs];rfl
  have a2:z04 G F (Nat.add 0 1)=some (.map m):=by rw[z9i fG];rfl
  have a3:z04 G F (Nat.add 0 4)=some (.map A.nx):=by rw[z9i fG];rfl
  have a4:z56 [.map m] H1=some (.map H1.nx,A):=by
   unfold z56
   simp only[s1.gm]
   rw[hA];rfl
  have a5:(Cp.new (.map [])).1=A.nx:=nC
  have a6:Pos.beq m A.nx=false:=y7i (fun e=>by rw[e]at tm;omega)
  unfold z5p
  simp only[a1,a4,sB,sC,a5,<-hD,sG,a2,a3,gmG,ghG,a6,j4h x8 lv,y71]
 have cs:=z0f.sum C.s81 hset
 obtain⟨H2,hH2⟩ :∃ H2,H2=G.bump.upd A.nx (.map (fl.map PF.hk)):=⟨_,rfl⟩
 rw[<-hH2]at cs
 have n2:H2.nx.toNat=A.nx.toNat+2:=by rw[hH2];show G.nx.succ.toNat=_;rw[Pos.toNat_succ,hG];show D.nx.toNat+1=_;omega
 have g2:∀ p,p≠A.nx->PT.get p H2.t=PT.get p G.t:=fun p hp=>by rw[hH2,z0a (fun e=>hp e.symm)];rfl
 have ltA:∀ p:Pos,p.toNat<H1.nx.toNat->p≠A.nx:=fun p hp e=>by rw[e]at hp;omega
 have o2:∀ p:Pos,p.toNat<H1.nx.toNat->p≠F->PT.get p H2.t=PT.get p H1.t:=fun p h1 h2=>by rw[g2 p (ltA p h1),old p h1 h2]
 have hpf:∀ f∈fl,f.p.toNat<H1.nx.toNat:=fun f hf=>top _ (PSt.mem f hf)
 have e1:(fl.map PF.t).length=fl.length:=by rw[List.length_map]
 have R:PSt H2 F m H1.nx A.nx .snil fl fl.length 0 (ct+1):=by
  refine⟨by rw[g2 F (ltA F tF)];exact fG,by rw[o2 m tm x1];exact s1.gm,by rw[List.take_length,g2 _ (fun e=>by rw[<-e]at nA';omega)];exact glG,by rw[hH2];exact z0q,⟨[],GS.nil⟩,?_,?_,?_,fun q hq=>by(cases hq),?_,s1.nn,lr⟩
  .intro f hf
   obtain⟨z1,z2,z3⟩:=s1.ff f hf
   exact⟨(o2 f.p (hpf f hf) (x7 f hf).1).trans z1,z2.other (fun q hq=>o2 q (z2.1.blk_lt q hq) (fun e=>(s1.bd f hf q hq).1 (by simp[e]))) (by omega),z3⟩
  .have q1:∀ p:Pos,p.toNat<H1.nx.toNat->p≠H1.nx/\p≠A.nx:=fun p hp=>⟨fun e=>by rw[e]at hp;omega,ltA p hp⟩
   simp only[PL,List.nodup_cons,List.mem_cons,not_or]
   refine⟨⟨fun e=>x1 e.symm,(q1 F tF).1,(q1 F tF).2,fun e=>?_⟩,⟨(q1 m tm).1,(q1 m tm).2,fun e=>?_⟩,⟨fun e=>by have:=congrArg Pos.toNat e;omega,fun e=>?_⟩,fun e=>?_,x8⟩
   .obtain⟨f,hf,e⟩:=List.mem_map.1 e;exact(x7 f hf).1 e
   .obtain⟨f,hf,e⟩:=List.mem_map.1 e;exact(x7 f hf).2.1 e
   .obtain⟨f,hf,e⟩:=List.mem_map.1 e;have:=hpf f hf;rw[e]at this;omega
   .obtain⟨f,hf,e⟩:=List.mem_map.1 e;have:=hpf f hf;rw[e]at this;omega
  .intro q hq
   simp only[PL,List.mem_cons]at hq
   rcases hq with rfl | rfl | rfl | rfl | hq
   .omega
   .omega
   .omega
   .omega
   .obtain⟨f,hf,rfl⟩:=List.mem_map.1 hq;have:=hpf f hf;omega
  .intro f hf q hq
   refine⟨fun e=>?_,fun e=>by cases e⟩
   have hb:=(s1.bd f hf q hq).1
   have hlt:=(s1.ff f hf).2.1.1.blk_lt q hq
   simp only[PL,List.mem_cons,not_or]at hb e
   rcases e with e | e | e | e | e
   .exact hb.1 e
   .exact hb.2.1 e
   .rw[e]at hlt;omega
   .rw[e]at hlt;omega
   .exact hb.2.2.2.2 e
 refine⟨H2,_,?_,⟨m,H1.nx,A.nx,.snil,fl,by rw[e1];exact R,rfl,rfl⟩,t1.trans ⟨by omega,fun p hp hs=>?_,?_,R.lt⟩⟩
 .refine C.c32.re (by conv=>lhs;reduce) ?_
  simp(maxDischargeDepth:=9)only[auX,zA,hl_g s.fs,z0c cc,z0c cs]
 .exact o2 p (by rw[hn1];omega) (fun e=>hs (.inl (by simp[e])))
 .rintro p (hp | hp | ⟨f,hf,hp⟩)
  .simp only[PL,List.mem_cons]at hp
   rcases hp with rfl | rfl | rfl | rfl | hp
   .exact .inl (.inl (by simp))
   .exact .inl (.inl (by simp))
   .exact .inr (by rw[hn1];exact hN)
   .exact .inr (by rw[nA',hn1];omega)
   .exact .inl (.inl (by simp only[PL,List.mem_cons];exact .inr (.inr (.inr (.inr hp)))))
  .cases hp
  .exact .inl (.inr (.inr ⟨f,hf,hp⟩))
theorem k0o{H:AHeap} :∃ F H' S',z0f E 23 [.int .i64 (.ofNat 2147483647)] H (.ptr F 0) H'/\PS H' F [] 0 0 0 S'/\Keep H.nx.toNat H H'/\∀ p,S' p->H.nx.toNat<=p.toNat:=by
 have k1:Keep H.nx.toNat H (H.new (.map [])).2:=z0d
 have k2:Keep _ _ ((H.new (.map [])).2.new (.map [])).2:=z0d
 have k3:Keep _ _ (((H.new (.map [])).2.new (.map [])).2.new (.map [])).2:=z0d
 have k4:Keep _ _ ((((H.new (.map [])).2.new (.map [])).2.new (.map [])).2.new (.cells (PC H.nx H.nx.succ .snil H.nx.succ.succ 0) false false)).2:=z0d
 have p1:H.nx.succ.toNat=H.nx.toNat+1:=Pos.toNat_succ _
 have p2:H.nx.succ.succ.toNat=H.nx.toNat+2:=by rw[Pos.toNat_succ];omega
 have p3:H.nx.succ.succ.succ.toNat=H.nx.toNat+3:=by rw[Pos.toNat_succ];omega
 have p4:((((H.new (.map [])).2.new (.map [])).2.new (.map [])).2.new (.cells (PC H.nx H.nx.succ .snil H.nx.succ.succ 0) false false)).2.nx.toNat=H.nx.toNat+4:=by
  show H.nx.succ.succ.succ.succ.toNat=_
  rw[Pos.toNat_succ];omega
 have n2:((H.new (.map [])).2.new (.map [])).2.nx.toNat=H.nx.toNat+2:=p2
 have n1:(H.new (.map [])).2.nx.toNat=H.nx.toNat+1:=p1
 have n3:(((H.new (.map [])).2.new (.map [])).2.new (.map [])).2.nx.toNat=H.nx.toNat+3:=p3
 have g1:PT.get H.nx ((((H.new (.map [])).2.new (.map [])).2.new (.map [])).2.new (.cells (PC H.nx H.nx.succ .snil H.nx.succ.succ 0) false false)).2.t=some (.map []):=by rw[k4.get _ (by omega),k3.get _ (by omega),k2.get _ (by omega)];exact z0i
 have g2:PT.get H.nx.succ ((((H.new (.map [])).2.new (.map [])).2.new (.map [])).2.new (.cells (PC H.nx H.nx.succ .snil H.nx.succ.succ 0) false false)).2.t=some (.map []):=by rw[k4.get _ (by omega),k3.get _ (by omega)];exact z0i (H:=(H.new (.map [])).2)
 have g3:PT.get H.nx.succ.succ ((((H.new (.map [])).2.new (.map [])).2.new (.map [])).2.new (.cells (PC H.nx H.nx.succ .snil H.nx.succ.succ 0) false false)).2.t=some (.map []):=by rw[k4.get _ (by omega)];exact z0i (H:=((H.new (.map [])).2.new (.map [])).2)
 have g4:PT.get H.nx.succ.succ.succ ((((H.new (.map [])).2.new (.map [])).2.new (.map [])).2.new (.cells (PC H.nx H.nx.succ .snil H.nx.succ.succ 0) false false)).2.t=some (.cells (PC H.nx H.nx.succ .snil H.nx.succ.succ 0) false false):=z0i (H:=(((H.new (.map [])).2.new (.map [])).2.new (.map [])).2)
 have ne:∀ a b:Pos,a.toNat≠b.toNat->a≠b:=fun a b h e=>h (by rw[e])
 refine⟨H.nx.succ.succ.succ,((((H.new (.map [])).2.new (.map [])).2.new (.map [])).2.new (.cells (PC H.nx H.nx.succ .snil H.nx.succ.succ 0) false false)).2,_,?_,⟨H.nx,H.nx.succ,H.nx.succ.succ,.snil,[],⟨g4,g1,g2,g3,⟨[],GS.nil⟩,(fun f hf=>by cases hf),?_,?_,(fun q hq=>by cases hq),(fun f hf=>by cases hf),by simp,lr⟩,rfl,rfl⟩,((k1.trans (k2.mono (by omega))).trans (k3.mono (by omega))).trans (k4.mono (by omega)),?_⟩
 .refine C.c23.re (by conv=>lhs;reduce) ?_
  simp(maxDischargeDepth:=9)only[auX,bq,Nat.reduceLT]
 .simp only[PL,List.map_nil,List.nodup_cons,List.mem_cons,List.not_mem_nil,or_false,not_or,not_false_eq_true,List.nodup_nil,and_true]
  exact⟨⟨ne _ _ (by omega),ne _ _ (by omega),ne _ _ (by omega)⟩,⟨ne _ _ (by omega),ne _ _ (by omega)⟩,ne _ _ (by omega)⟩
 .intro q hq
  simp only[PL,List.map_nil,List.mem_cons,List.not_mem_nil,or_false]at hq
  rcases hq with rfl | rfl | rfl | rfl<;>omega
 .rintro q (hq | hq | ⟨f,hf,hq⟩)
  .simp only[PL,List.map_nil,List.mem_cons,List.not_mem_nil,or_false]at hq
   rcases hq with rfl | rfl | rfl | rfl<;>omega
  .cases hq
  .cases hf
end
end Go.Am
