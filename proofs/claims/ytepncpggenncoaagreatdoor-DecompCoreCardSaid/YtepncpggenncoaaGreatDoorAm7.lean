import Derived.Test.YtepncpggenncoaaGreatDoorAm6
import Derived.LoopNIn
set_option linter.unusedSimpArgs false
set_option linter.unusedVariables false
set_option maxHeartbeats 8000000
namespace Go.Am
open Go Go.RowKit
section
variable{P:Program}{T:Tys}{B:Nat}{φ:Emb}{H:AHeap}{w:World}{nt:Nat}{t:PT AVal}{a:Act}
theorem Sim.kill(hH:HRel T B φ H w){b:Pos}{x:Place}(hx:φ b=some x) :Sim T B φ H w φ (H.kill b) w:=by
 have sub:∀ p o,PT.get p (H.kill b).t=some o->PT.get p H.t=some o/\p≠b:=by
  intro p o h
  by_cases e:b=p
  .subst e;simp[AHeap.kill,PT.get_set_same]at h
  .simp only[AHeap.kill,PT.get_set_other _ _ _ _ e]at h
   exact⟨h,fun e'=>e e'.symm⟩
 have sub':∀ p,PT.get p (H.kill b).t≠none->PT.get p H.t≠none:=by
  intro p h
  cases hg:PT.get p (H.kill b).t with
  | none=>exact absurd hg h
  | some o=>rw[(sub p o hg).1];simp
 exact⟨⟨Emb.le_refl _,fun p hp hn=>⟨hn,by
   have:b≠p:=fun e=>by rw[e]at hx;rw[hx]at hn;cases hn
   simp[AHeap.kill,PT.get_set_other _ _ _ _ this]⟩,lr⟩,
  ⟨fun p o y h hy=>hH.obj p o y (sub p o h).1 hy,fun p q y z hpq hp hq=>hH.inj p q y z hpq (sub' p hp) (sub' q hq),hH.low,fun p hp=>hH.dom p (sub' p hp),hH.base,hH.glob⟩,Below.refl _ _⟩
theorem j17(hH:HRel T B φ H w){e:TypeId}{l:List AVal}{old new z:Array Value}{need sCap sz:Nat}(hl:LRel φ l (old++new).toList)(hlen:(old++new).size=need*sz)(hz:z.size=sz)(hsz:sz≠0)(hneed:need<=281474976710656) :
  ∃ φ',Sim T B φ H w φ' (H.new (.cells l true false)).2 (w.drew.alloc (.cells (old++new++Builtin.zeroCells z (grownCap w need sCap e-need)) e)) ∧
   VRel φ' (.sl H.nx 0 need need sz) (.slice (some ⟨w.heap.size,0,none⟩) need (grownCap w need sCap e)):=by
 have hge:=j5j w need sCap e
 have hH2:HRel T B φ H w.drew:=hH.drawn rfl
 have hk:(old++new++Builtin.zeroCells z (grownCap w need sCap e-need)).size=grownCap w need sCap e*sz:=by
  rw[Array.size_append,hlen]
  simp only[Builtin.zeroCells,Array.size_map,Array.size_range,hz]
  rw[<-Nat.add_mul]
  congr 1
  omega
 have hcells:∀ (i:Nat) (a:AVal),l[i]? = some a->∃ v,(old++new++Builtin.zeroCells z (grownCap w need sCap e-need))[i]? = some v/\VRel φ a v:=by
  intro i x hi
  obtain⟨v,g1,g2⟩:=hl.getA i x hi
  refine⟨v,?_,g2⟩
  have:i<(old++new).size:=by
   rcases Nat.lt_or_ge i (old++new).size with h | h
   .exact h
   .rw[Array.getElem?_eq_none h]at g1;cases g1
  rw[Array.getElem?_append_left this]
  exact g1
 refine⟨φ.put H.nx ⟨w.heap.size,0,grownCap w need sCap e*sz⟩,?_,⟨w.heap.size,0,grownCap w need sCap e*sz⟩,⟨w.heap.size,0,none⟩,grownCap w need sCap e,Emb.put_same _ _ _,rfl,lr,hge,.inr (.inl ⟨hsz,rfl,by simp,Go.grownCap_le_maxLen _ _ _ _ (by unfold maxLen;omega)⟩)⟩
 have S:=Sim.new hH2 (.cells l true false) (.cells (old++new++Builtin.zeroCells z (grownCap w need sCap e-need)) e) _ (ORel.cells_new hH2.base hcells (by rw[hl.lengthA,hlen,hk];exact Nat.mul_le_mul_right _ hge) true)
 rw[hk]at S
 exact(⟨Ext.refl _ _,hH2,(Below.refl B w).drew⟩ :Sim T B φ H w φ H w.drew).trans S
theorem q1e(hH:HRel T B φ H w){b:Pos}{x:Place}(hx:φ b=some x){m:List AVal}{op:Bool}(hb:PT.get b H.t=some (.cells m op false)){o n:Nat}{old:List AVal}(hold:z0t H b o n=some old)
  {new:List AVal} {us:List Value} (hnew:LRel φ new us) (hone:∀ v∈us,v.oneCell'=true) (hroom:x.s+o+n+us.length<=x.k) :
  ∃ w',(storeCells ⟨x.c,x.s+o+n,none⟩ us).run P w=.ok () w'/\Sim T B φ H w (φ.put H.nx ⟨x.c,x.s+o,x.k⟩) ((H.kill b).new (.cells (old++new) true false)).2 w':=by
 obtain⟨arr,e,lo,hi,h1,h2,h3,h4,h5,h6,h7⟩:=hH.obj b _ x hb hx
 have hB:=h7 rfl
 obtain⟨old',q1,q2,q3,_⟩:=z3z (P:=P) hH hx hold
 have hlen:=hnew.length
 have hcells:∀ j,j<us.length->(w.cell? ⟨x.c,x.s+o+n+0+j,none⟩).isSome=true:=by
  intro j hj
  rw[z4c h1]
  have:x.s+o+n+0+j<arr.size:=by omega
  simpa using this
 have hfz:∀ j,j<us.length->w.frozen? ⟨x.c,x.s+o+n+0+j,none⟩=false:=by
  intro j hj
  simp only[World.frozen?,h1]
  rcases h5 with h5 | h5 | h5
  .simp;omega
  .simp;omega
  .cases h5
 have hrun:=run_storeCells_cells (P:=P) x.c (x.s+o+n) us 0 w hcells hfz hone
 simp only[aZ]at hrun
 refine⟨_,hrun,?_⟩
 have hbelow:Below B w (w.setCells x.c (x.s+o+n) us):=z45 hB us _ w
 obtain⟨arr',g1,g2,g3⟩:=z44 x.c us (x.s+o+n) w arr h1 (by omega)
 have hk:=(Sim.kill hH hx).rel
 have hfresh:φ H.nx=none:=hH.fresh
 have hnb:H.nx≠b:=fun e=>by rw[<-e,hfresh]at hx;cases hx
 have kept:∀ q,q≠H.nx->q≠b->PT.get q ((H.kill b).new (.cells (old++new) true false)).2.t=PT.get q H.t:=by
  intro q h1 h2
  simp only[AHeap.new,AHeap.kill]
  rw[PT.get_set_other _ _ _ _ (fun e=>h1 e.symm),PT.get_set_other _ _ _ _ (fun e=>h2 e.symm)]
 have gone:PT.get b ((H.kill b).new (.cells (old++new) true false)).2.t=none:=by
  simp only[AHeap.new,AHeap.kill]
  rw[PT.get_set_other _ _ _ _ hnb,PT.get_set_same]
 refine⟨⟨Emb.le_put _ hfresh,fun p hp hn=>?_,by simp[AHeap.new,AHeap.kill,Pos.toNat_succ]⟩,?_,hbelow⟩
 .have p1:p≠H.nx:=fun e=>by rw[e]at hp;omega
  have p2:p≠b:=fun e=>by rw[e,hx]at hn;cases hn
  exact⟨by rw[Emb.put_other _ _ p1];exact hn,kept p p1 p2⟩
 .refine hH.place H.nx _ hfresh (by simp[AHeap.new,AHeap.kill,Pos.toNat_succ]) (by simp[AHeap.new,AHeap.kill,Pos.toNat_succ]) (fun q hq=>?_) (fun q z hq hg hz=>?_) (by rw[z3f];exact(hH.low b x hx).2) (by rw[z3f];exact lr) (fun ob hob=>?_)
  .by_cases e:q=b
   .subst e;exact .inr gone
   .exact .inl (kept q hq e)
  .have hqb:q≠b:=fun e=>by rw[e]at hg;exact hg gone
   rw[kept q hq hqb]at hg
   have hne:z.c≠x.c:=hH.inj q b z x hqb hg (by rw[hb];simp) hz hx
   exact⟨hne,z5n _ _ _ _ _ hne⟩
  .have:ob=.cells (old++new) true false:=by
    simp only[AHeap.new,AHeap.kill,PT.get_set_same]at hob
    exact(Option.some.inj hob).symm
   subst this
   have hle:=Emb.le_put (φ:=φ) (p:=H.nx) ⟨x.c,x.s+o,x.k⟩ hfresh
   have hol:=q2.length
   refine⟨arr',e,lo,hi,g1,by rw[g2,h2],?_,fun i y hy=>?_,h5,fun h=>(by cases h),fun _=>hB⟩
   .simp;omega
   .by_cases hi':i<old.length
    .rw[List.getElem?_append_left hi']at hy
     obtain⟨v,k1,k2⟩:=q2.get hy
     have:=q3 i v k1
     rw[z4c h1]at this
     refine⟨v,?_,VRel.mono hle _ _ k2⟩
     rw[g3]
     show(if x.s+o+n<=x.s+o+i/\_ then _ else arr[x.s+o+i]?)=_
     rw[if_neg (by omega)]
     exact this
    .rw[List.getElem?_append_right (by omega)]at hy
     obtain⟨v,k1,k2⟩:=hnew.get hy
     refine⟨v,?_,VRel.mono hle _ _ k2⟩
     have hiu:i-old.length<us.length:=by
      rcases Nat.lt_or_ge (i-old.length) us.length with h | h
      .exact h
      .rw[List.getElem?_eq_none h]at k1;cases k1
     rw[g3]
     show(if x.s+o+n<=x.s+o+i/\x.s+o+i<x.s+o+n+us.length then us[x.s+o+i-(x.s+o+n)]? else _)=_
     rw[if_pos (by omega),show x.s+o+i-(x.s+o+n)=i-old.length by omega]
     exact k1
end
section
variable{P:Program}{T:Tys}{B:Nat}{φ:Emb}{H:AHeap}{w:World}{nt:Nat}{t:PT AVal}{a:Act}
theorem z2g{b:Pos}{o n:Nat}{l:List AVal}(h:z0t H b o n=some l) :l.length=n:=by
 unfold z0t at h
 split at h
 .obtain⟨e1,e2⟩:=z9d h
  rw[e1];simp;omega
 .cases h
theorem j5n{sz n:Nat}{x:AVal}{l:List AVal}{m:Nat}(hm:lenA x=some m)(hle:n<=m)(hn:(∃ s,x=.str s)->sz=1)(h:z31 H sz n x=some l) :l.length=n*sz:=by
 unfold z31 at h
 split at h
 .simp[lenA]at hm
  cases h
  have:n=0:=by omega
  subst this;simp
 .rename_i s
  simp[lenA]at hm
  cases h
  rw[z2h,hn ⟨s,rfl⟩];simp;omega
 .exact z2g h
 .cases h
theorem j97(hT:TOk2 T P)(hH:HRel T B φ H w){ats:Array TypeId}{ty ty2 e:TypeId}{i:TypeInfo}{xs:Array Value}{s x:AVal}{us ux:Value}(h0:ats[0]? = some ty)(hx0:xs[0]? = some us)(hx1:xs[1]? = some ux)
  (hs:VRel φ s us) (hx:VRel φ x ux) (h1:ats[1]? = none\/∃ tx d,ats[1]? = some tx/\T.und tx=some d/\∀ k,d≠.int k) (hty:T.und ty=some (.slice e)) (hi:T.get e=some i) (hb0:i.bytes≠0) (hs0:i.size≠0)
  {z:AVal} (hz:z3c T e=some z) {v:AVal} {H':AHeap} (h:z09 H i.size i.bytes s x=some (v,H')) :
  q0i P T B φ H w (Builtin.append_ ats ty2 xs) v H':=by
 have hsz:T.size e=some i.size:=by simp[Tys.size,hi]
 obtain⟨zv,z1,z2,z3⟩:=hT.run_zero hz w.drew
 have hzs:=z3 _ hsz
 have hH2:HRel T B φ H w.drew:=hH.drawn rfl
 unfold z09 at h
 split at h
 .rename_i n new hsrc
  obtain⟨hn,hf⟩:=j80 hsrc
  have hlen:=j63 (P:=P) (w:=w) hx hn
  have hstr:(∃ s,x=.str s)->i.size=1:=by
   rintro⟨s,rfl⟩
   exact j6x hsrc
  have hnl:=j5n hn lr hstr hf
  obtain⟨nw,f1,f2⟩:=z8q (P:=P) hH hx hn lr hf
  obtain⟨nw',f1',f2'⟩:=z8q (P:=P) hH2 hx hn lr hf
  have hnws:nw'.size=n*i.size:=by rw[<-f2'.lengthA,hnl]
  split at h
  ·
   have es:us=.slice none 0 0:=hs
   rw[es]at hx0
   split at h
   .cases h
    have:=z75 (P:=P) (w:=w) (ty2:=ty2) hT.toTOk h0 hx0 hx1 h1 hty hsz hlen (by simp) f1 (w':=w) rfl
    exact⟨_,w,φ,this,rfl,Sim.refl hH⟩
   .rename_i m
    split at h
    .rename_i hb
     cases h
     have hb:=Nat.le_of_ble_eq_true hb
     have hfit:Builtin.nextslicecap (0+(m+1)) 0*i.bytes<=2^48:=by
      rw[nextslicecap_zero (by omega)]
      simpa using hb
     have hold:(Builtin.firstCells i.size 0 (.slice none 0 0)).run P w.drew=.ok #[] w.drew:=by simp[Builtin.firstCells]
     have:=j4e (P:=P) (w:=w) (ty2:=ty2) hT.toTOk h0 hx0 hx1 h1 hty hi hb0 hlen (by omega) hfit hold f1' z1
     obtain⟨φ',g1,g2⟩:=j17 (w:=w) (e:=e) (old:=#[]) (new:=nw') (z:=zv.cells) (need:=m+1) (sCap:=0) (sz:=i.size) (l:=new) hH (by simpa using f2') (by simpa using hnws) hzs hs0 (Nat.le_trans (Nat.le_mul_of_pos_right _ (Nat.pos_of_ne_zero hb0)) hb)
     refine⟨_,_,φ',this,?_,?_⟩
     .simpa using g2
     .simpa[AHeap.new]using g1
    .cases h
  ·
   rename_i b o len cap k
   obtain⟨y,a',cap',e1,e2,e3,e4,e5,e6,e7⟩:=j1f hs
   rw[e2]at hx0
   split at h
   ·
    rename_i hle
    have hle:=Nat.le_of_ble_eq_true hle
    split at h
    .rename_i h' hst
     cases h
     obtain⟨w',g3,g4⟩:=z7e (P:=P) hH e1 hst f2
     have g5:(storeCells (a'.add (len*i.size)) nw.toList).run P w=.ok () w':=by
      rcases e5 with e5 | e5
      .rw[e5,z24,Nat.add_assoc];exact g3
      .have hn0:n=0:=by simp at hle;omega
       have hc:nw.toList=[]:=by
        have:nw.toList.length=0:=by rw[f2.length,hnl,hn0];simp
        exact List.length_eq_zero_iff.1 this
       rw[hc]at g3 ⊢
       exact g3
     have hle':len+n<=cap:=hle
     have:=z75 (P:=P) (w:=w) (ty2:=ty2) hT.toTOk h0 hx0 hx1 h1 hty hsz hlen (by omega) f1 (w':=w') g5
     refine⟨_,w',φ,this,?_,g4⟩
     obtain⟨y',a2,c2,q1,q2,q3,q4,q5⟩:=hs
     rw[e2]at q2
     cases q2
     exact⟨y',_,_,q1,rfl,hle',q4,q5⟩
    .cases h
   ·
    rename_i hle
    have hle:cap<len+n:=by
     rcases Nat.lt_or_ge cap (len+n)with h | h
     .exact h
     .have:Nat.ble (Nat.add len n) cap=true:=Nat.ble_eq_true_of_le h
      rw[this]at hle;cases hle
    split at h
    .rename_i old hold hbnd
     have hbnd:(len+n)*2*i.bytes<=281474976710656:=Nat.le_of_ble_eq_true hbnd
     obtain⟨ow,o1,o2⟩:=z8q (P:=P) (x:=.sl b o len cap k) (sz:=i.size) (n:=len) (m:=len) hH2 hs rfl lr hold
     have hol:=z2g hold
     rw[e2]at o1
     have hows:ow.size=len*i.size:=by rw[<-o2.lengthA,hol];rfl
     have hrel:LRel φ (old++new) (ow++nw').toList:=by rw[Array.toList_append];exact o2.append f2'
     have hsum:(ow++nw').size=(len+n)*i.size:=by rw[Array.size_append,hows,hnws,Nat.add_mul]
     have grows:cap'<len+n->(Builtin.append_ ats ty2 xs).run P w=.ok (.slice (some ⟨w.heap.size,0,none⟩) (len+n) (grownCap w (len+n) cap' e))
       (w.drew.alloc (.cells (ow++nw'++Builtin.zeroCells zv.cells (grownCap w (len+n) cap' e-(len+n))) e)):=by
      intro hc
      have hfit:Builtin.nextslicecap (len+n) cap'*i.bytes<=2^48:=by
       have:=Nat.mul_le_mul_right i.bytes (nextslicecap_le hc)
       rw[Nat.mul_comm 2]at this
       omega
      exact j4e (P:=P) (w:=w) (ty2:=ty2) hT.toTOk h0 hx0 hx1 h1 hty hi hb0 hlen (by omega) hfit o1 f1' z1
     split at h
     ·
      cases h
      have hc:cap'<len+n:=by rw[e6 rfl];exact hle
      obtain⟨φ',g1,g2⟩:=j17 (w:=w) (e:=e) (z:=zv.cells) (need:=len+n) (sCap:=cap') hH hrel hsum hzs hs0 (by have:=Nat.le_mul_of_pos_right ((len+n)*2) (Nat.pos_of_ne_zero hb0);omega)
      exact⟨_,_,φ',grows hc,g2,g1⟩
     ·
      rename_i k'
      split at h
      .rename_i m op hb hk hscal
       cases h
       have hk:k'.succ=i.size:=Nat.eq_of_beq_eq_true hk
       rcases Nat.lt_or_ge cap' (len+n)with hc | hc
       .have S:=Sim.kill hH e1
        obtain⟨φ',g1,g2⟩:=j17 (w:=w) (e:=e) (z:=zv.cells) (need:=len+n) (sCap:=cap') S.rel hrel hsum hzs hs0 (by have:=Nat.le_mul_of_pos_right ((len+n)*2) (Nat.pos_of_ne_zero hb0);omega)
        exact⟨_,_,φ',grows hc,g2,S.trans g1⟩
       .obtain⟨ea,eb⟩:=e7 (by simp) (by omega)
        have hm:=Nat.mul_le_mul_right i.size hc
        rw[Nat.add_mul]at hm
        obtain⟨w',g3,g4⟩:=q1e (P:=P) hH e1 hb hold f2 (z77 hscal f2) (by rw[f2.length,hnl];rw[hk]at eb;show y.s+o+len*i.size+n*i.size<=y.k;omega)
        have g5:(storeCells (a'.add (len*i.size)) nw.toList).run P w=.ok () w':=by
         rw[ea,z24];exact g3
        have:=z75 (P:=P) (w:=w) (ty2:=ty2) hT.toTOk h0 hx0 hx1 h1 hty hsz hlen hc f1 (w':=w') g5
        refine⟨_,w',_,this,⟨⟨y.c,y.s+o,y.k⟩,a',cap',Emb.put_same _ _ _,rfl,lr,hc,.inr (.inl ⟨hs0,by rw[ea];rfl,?_⟩)⟩,g4⟩
        rw[hk]at eb
        exact eb
      .cases h
    .cases h
  .cases h
 .cases h
end
section
variable{P:Program}{T:Tys}{B:Nat}{φ:Emb}{H:AHeap}{w:World}{nt:Nat}{t:PT AVal}{a:Act}
theorem j1j{o:Oper}{c:Call}{b:Builtin}(ho:o.op=.call c)(hc:c.callee=.builtin b) :
  ∃ cs,(execOp a.eval o).run P w=(builtin b c.argTypes o.type cs (c.args.map a.eval)).run P w:=by
 simp only[execOp,ho,resolve,hc,Sem.run_bind,Sem.run_pure,Result.andThen_ok,invoke]
 exact⟨_,rfl⟩
theorem z2l{α:Type}{xs:Array α}{l:List α}(h:xs.toList=l)(i:Nat) :xs[i]? = l[i]?:=by rw[<-h];simp
theorem y4d(hT:TOk T P)(hH:HRel T B φ H w)(ht:TRel φ nt t a.tmps){o:Oper}{c:Call}(ho:o.op=.call c){ao:AOp}(hc:z4b T c=some ao){v:AVal}(h:quiet t H ao=some v) :
  ∃ u,(execOp a.eval o).run P w=.ok (.value u) w/\VRel φ v u:=by
 unfold z4b at hc
 split at hc
 ·
  split at hc
  .cases hc;simp[quiet]at h
  .cases hc
 .split at hc
  .cases hc;simp[quiet]at h
  .cases hc
 .cases hc
 .rename_i b hb
  obtain⟨cs,hrun⟩:=j1j (P:=P) (w:=w) (a:=a) ho hb
  rw[hrun]
  split at hc
  ·
   rename_i x ty rest hargs hats
   have h0:c.argTypes[0]? = some ty:=by rw[z2l hats];rfl
   have hx0:(c.args.map a.eval)[0]? = some (a.eval x):=by rw[Array.getElem?_map,z2l hargs];rfl
   have wrap:∀ {v:AVal},(∃ r,(Builtin.len_ c.argTypes o.type (c.args.map a.eval)).run P w=.ok r w/\VRel φ v r)->∃ u,(builtin .len c.argTypes o.type cs (c.args.map a.eval)).run P w=.ok (.value u) w/\VRel φ v u:=by
    intro v ⟨r,h1,h2⟩
    exact⟨r,by simp[builtin,h1],h2⟩
   split at hc
   .cases hc;exact wrap (y4a hT hH ht ‹_› ‹_› h h0 hx0)
   .cases hc;exact wrap (y39 hT hH ht ‹_› ‹_› h h0 hx0)
   .cases hc;exact wrap (y38 hT hH ht ‹_› ‹_› h h0 hx0)
   .rename_i n _ _ hu _
    cases hc
    cases h
    exact wrap ⟨goInt n,by simp[Builtin.len_,h0,hx0,hT.run_und hu],rfl⟩
   .rename_i p _ hu _
    split at hc
    .rename_i n _ hp
     cases hc
     cases h
     exact wrap ⟨goInt n,by simp[Builtin.len_,h0,hx0,hT.run_und hu,hT.run_und hp],rfl⟩
    .cases hc
   .cases hc
  ·
   split at hc
   .split at hc
    .split at hc
     .cases hc;simp[quiet]at h
     .cases hc
    .cases hc
   .cases hc
  .split at hc
   .split at hc
    .cases hc;simp[quiet]at h
    .cases hc
   .cases hc
  ·
   split at hc
   .rename_i l hl
    cases hc
    simp only[quiet]at h
    have hr:=z4x hH ht hl
    split at h
    .rename_i x l' hxs
     rw[hxs]at hr
     obtain⟨u,us,e,h1,h2⟩:=hr
     obtain⟨r,g1,g2⟩:=y13 (P:=P) (w:=w) false h1 h2 h
     have:(c.args.map a.eval).toList=u::us:=by rw[Array.toList_map];exact e
     exact⟨r,by simp only[if_neg Bool.false_ne_true]at g1;simp only[builtin,Builtin.min_,this,Sem.run_bind,g1,Result.andThen_ok,Sem.run_pure],g2⟩
    .cases h
   .cases hc
  .split at hc
   .rename_i l hl
    cases hc
    simp only[quiet]at h
    have hr:=z4x hH ht hl
    split at h
    .rename_i x l' hxs
     rw[hxs]at hr
     obtain⟨u,us,e,h1,h2⟩:=hr
     obtain⟨r,g1,g2⟩:=y13 (P:=P) (w:=w) true h1 h2 h
     have:(c.args.map a.eval).toList=u::us:=by rw[Array.toList_map];exact e
     exact⟨r,by simp only[if_true]at g1;simp only[builtin,Builtin.max_,this,Sem.run_bind,g1,Result.andThen_ok,Sem.run_pure],g2⟩
    .cases h
   .cases hc
  .split at hc
   .split at hc
    .cases hc;simp[quiet]at h
    .cases hc
   .cases hc
  .split at hc
   .split at hc
    .cases hc;simp[quiet]at h
    .cases hc
   .cases hc
  .cases hc
theorem j1e{am ah:Option AOpnd}{X:Option TypeDesc}{d:TypeDesc}(hX:(match am,ah with | some _,none=>none | _,_=>X)=some d) :X=some d/\(am.isSome=true->ah.isSome=true):=by
 cases am<;>cases ah<;>first
  | exact⟨hX,by simp⟩
  | cases hX
theorem j4u(hT:TOk2 T P)(hH:HRel T B φ H w)(ht:TRel φ nt t a.tmps){o:Oper}{ao:AOp}(hc:z2r T o.op=some ao){v:AVal}(h:quiet t H ao=some v) :
  ∃ u,(execOp a.eval o).run P w=.ok (.value u) w/\VRel φ v u:=by
 have hT1:=hT.toTOk
 generalize ho:o.op=op at hc
 unfold z2r at hc
 split at hc
 ·
  split at hc
  .cases hc;cases h;exact j3k hH ht (.inl ho) ‹_›
  .cases hc
 .split at hc
  .cases hc;cases h;exact j3k hH ht (.inr ho) ‹_›
  .cases hc
 .split at hc
  .cases hc;exact y36 hH ht ho ‹_› ‹_› ‹_› h
  .cases hc
 .split at hc
  .cases hc;simp[quiet]at h
  .cases hc
 .split at hc
  .cases hc;simp[quiet]at h
  .cases hc
 ·
  split at hc
  .split at hc
   .cases hc;exact j7c hT1 hH ht ho ‹_› ‹_› ‹_› ‹_› h
   .cases hc
  .split at hc
   .split at hc
    .cases hc;exact j7d hT1 hH ht ho ‹_› ‹_› ‹_› ‹_› h
    .cases hc
   .cases hc
  .cases hc
 ·
  split at hc
  .split at hc
   .split at hc
    .cases hc;simp[quiet]at h
    .cases hc
   .cases hc
  .cases hc
 ·
  split at hc
  .cases hc;exact j88 hT1 hH ht ho ‹_› ‹_› ‹_› h
  .cases hc;exact j89 hT1 hH ht ho ‹_› ‹_› h
  .cases hc
 .split at hc
  .cases hc;simp[quiet]at h
  .cases hc
 .split at hc
  .cases hc;exact j2u hH ht ho ‹_› h
  .cases hc
 ·
  split at hc
  .split at hc
   .cases hc;exact j7e hH ht ho ‹_› ‹_› h
   .cases hc;exact j7e hH ht ho ‹_› ‹_› h
   .split at hc
    .cases hc;exact y1n hT hH ht (neg:=false) ho ‹_› ‹_› (j76 ‹_›) h
    .cases hc;exact y1n hT hH ht (neg:=true) ho ‹_› ‹_› (j76 ‹_›) h
    .cases hc
  .cases hc
 .split at hc
  .cases hc;exact q0y hH ht ho ‹_› h
  .cases hc
 ·
  split at hc
  .cases hc;exact j86 hT1 hH ht ho ‹_› ‹_› ‹_› h
  .cases hc;exact y34 hT1 hH ht ho ‹_› ‹_› ‹_› h
  .split at hc
   .cases hc;simp[quiet]at h
   .cases hc
  .split at hc
   .cases hc;exact j2v hT1 hH ht ho ‹_› ‹_› ‹_› ‹_› h
   .cases hc
  .split at hc
   .cases hc;simp[quiet]at h
   .cases hc
  .cases hc
 ·
  split at hc
  .split at hc
   .split at hc
    .cases hc;exact j1m hT1 hH ht ho ‹_› ‹_› ‹_› ‹_› h
    .cases hc
   .cases hc
  .cases hc
 ·
  split at hc
  .split at hc
   .cases hc;exact y4b hT1 hH ht ho ‹_› ‹_› ‹_› ‹_› h
   .cases hc
  .split at hc
   .cases hc;exact y4c hT1 hH ht ho ‹_› ‹_› ‹_› ‹_› h
   .cases hc
  .cases hc
 ·
  split at hc
  .split at hc
   .split at hc
    .cases hc;exact j7a hT1 hH ht ho ‹_› ‹_› ‹_› ‹_› ‹_› h
    .cases hc;exact j7b hT1 hH ht ho ‹_› ‹_› ‹_› ‹_› h
    .cases hc
   .cases hc
  .cases hc
 ·
  split at hc
  .cases hc;exact j68 hT1 hH ht ho ‹_› ‹_› ‹_› h
  .split at hc
   .cases hc;exact j69 hT1 hH ht ho ‹_› ‹_› ‹_› ‹_› ‹_› h
   .cases hc
  .cases hc
 ·
  split at hc
  .rename_i al ah am _ hl hh hm
   split at hc
   .rename_i hu
    obtain⟨hu,hmh⟩:=j1e hu
    cases hc;exact j2t hT1 hH ht ho ‹_› hl hh hm hu h
   .rename_i hu
    obtain⟨hu,hmh⟩:=j1e hu
    split at hc
    .cases hc;exact j65 hT1 hH ht ho ‹_› hl hh hm hmh hu ‹_› (by simp) h
    .cases hc
   .rename_i hu
    obtain⟨hu,hmh⟩:=j1e hu
    split at hc
    .cases hc;exact j66 hT1 hH ht ho ‹_› hl hh hm hmh hu ‹_› h
    .cases hc
   .cases hc
  .cases hc
 ·
  split at hc
  .cases hc;exact y35 hT1 hH ht ho ‹_› ‹_› (by simp) h
  .cases hc
 ·
  split at hc
  .cases hc
  .rename_i d ax hne hu hx
   cases hc;cases h
   exact y61 hT1 hH ht ho hx hu hne
  .cases hc
 .split at hc
  .cases hc;cases h;exact y62 hH ht ho ‹_› ‹_›
  .cases hc
 .cases hc;simp[quiet]at h
 ·
  split at hc
  .split at hc
   .cases hc;simp[quiet]at h
   .cases hc
  .cases hc
 ·
  split at hc
  .split at hc
   .cases hc;exact j67 hT1 hH ht ho ‹_› ‹_› ‹_› ‹_› ‹_› h
   .cases hc
  .cases hc
 .split at hc
  .split at hc
   .cases hc;simp[quiet]at h
   .cases hc
  .cases hc
 .split at hc
  .cases hc;exact j4v hH ht ho ‹_› h
  .cases hc
 .exact y4d hT1 hH ht ho hc h
 .split at hc
  .split at hc
   .cases hc;simp[quiet]at h
   .cases hc
  .cases hc
 .cases hc
end
section
variable{P:Program}{T:Tys}{B:Nat}{φ:Emb}{H:AHeap}{w:World}{nt:Nat}{t:PT AVal}{a:Act}
theorem j8u{ao:AOp}{v:AVal}{H':AHeap}(hq:z0v ao=true)(h:z01 t H ao=some (v,H')) :quiet t H ao=some v/\H'=H:=by
 have go:∀ q:Option AVal,(match q with | some v=>some (v,H) | none=>none:ARes)=some (v,H')->q=some v/\H'=H:=by
  intro q h
  cases q with
  | none=>cases h
  | some u=>cases h;exact⟨rfl,rfl⟩
 cases ao<;>first
  | exact go _ h
  | (simp[z0v]at hq;done)
  | skip
 rename_i c x
 cases c<;>first
  | exact go _ h
  | (simp[z0v]at hq;done)
theorem y3o(hT:TOk2 T P)(hH:HRel T B φ H w)(ht:TRel φ nt t a.tmps){o:Oper}{c:Call}(ho:o.op=.call c){ao:AOp}(hc:z4b T c=some ao)(hq:z0v ao=false){v:AVal}{H':AHeap}(h:z01 t H ao=some (v,H')) :
  Does P T B φ H w (execOp a.eval o) v H':=by
 unfold z4b at hc
 split at hc
 .split at hc
  .cases hc;simp[z01,quiet]at h
  .cases hc
 .split at hc
  .cases hc;simp[z01,quiet]at h
  .cases hc
 .cases hc
 .rename_i b hb
  obtain⟨cs,hrun⟩:=j1j (P:=P) (w:=w) (a:=a) ho hb
  have wrap:∀ {m':Sem Value},(builtin b c.argTypes o.type cs (c.args.map a.eval))=(do pure (.value (<-m')))->q0i P T B φ H w m' v H'->Does P T B φ H w (execOp a.eval o) v H':=by
   intro m' hm ⟨u,w',φ',h1,h2,h3⟩
   exact⟨_,u,w',φ',by rw[hrun,hm];simp[h1],.inl rfl,h2,h3⟩
  split at hc
  .split at hc
   all_goals first
    | (cases hc;simp[z0v]at hq;done)
    | (cases hc;done)
    | (split at hc
       all_goals first
         | (cases hc;simp[z0v]at hq;done)
         | (cases hc;done))
  ·
   rename_i s x ts tx hargs hats
   have h0:c.argTypes[0]? = some ts:=by rw[z2l hats];rfl
   have hx0:(c.args.map a.eval)[0]? = some (a.eval s):=by rw[Array.getElem?_map,z2l hargs];rfl
   have hx1:(c.args.map a.eval)[1]? = some (a.eval x):=by rw[Array.getElem?_map,z2l hargs];rfl
   have ht1:c.argTypes[1]? = tx[0]?:=by rw[z2l hats];rfl
   split at hc
   .rename_i e as ax hu hs hx
    split at hc
    .rename_i i hi
     split at hc
     .rename_i sz by_ z hz hsz hby hzz
      cases hc
      have hne:c.argTypes[1]? = none\/∃ tx d,c.argTypes[1]? = some tx/\T.und tx=some d/\∀ k,d≠.int k:=by
       rw[ht1]
       split at hz
       .exact .inl rfl
       .rename_i tt _
        right
        split at hz
        .cases hz
        .rename_i d hd hut
         exact⟨tt,d,rfl,hut,fun k e=>hd k (by rw[e])⟩
        .cases hz
      refine wrap (m':=Builtin.append_ c.argTypes o.type (c.args.map a.eval)) rfl ?_
      refine j97 hT hH h0 hx0 hx1 (z0m hH ht hs) (z0m hH ht hx) hne hu hi (by rw[hby];simp) (by rw[hsz];simp) hzz ?_
      rw[hsz,hby]
      exact h
     .cases hc
    .cases hc
   .cases hc
  ·
   rename_i d s ts tx hargs hats
   have h0:c.argTypes[0]? = some ts:=by rw[z2l hats];rfl
   have hx0:(c.args.map a.eval)[0]? = some (a.eval d):=by rw[Array.getElem?_map,z2l hargs];rfl
   have hx1:(c.args.map a.eval)[1]? = some (a.eval s):=by rw[Array.getElem?_map,z2l hargs];rfl
   split at hc
   .rename_i e ad as hu hd hs
    split at hc
    .rename_i sz hsz
     cases hc
     refine wrap (m':=Builtin.copy_ c.argTypes o.type (c.args.map a.eval)) rfl ?_
     simp only[z01]at h
     cases hn:lenA (as.ev t)with
     | none=>rw[hn]at h;split at h<;>simp_all
     | some nn =>
      refine y9p hT.toTOk hH h0 hx0 hx1 (z0m hH ht hd) (z0m hH ht hs) hu hsz hn ?_
      rw[hn]at h
      rw[<-h]
      unfold q74
      cases ad.ev t<;>rfl
    .cases hc
   .cases hc
  .split at hc
   .cases hc;simp[z0v]at hq
   .cases hc
  .split at hc
   .cases hc;simp[z0v]at hq
   .cases hc
  ·
   rename_i x ty rest hargs hats
   have h0:c.argTypes[0]? = some ty:=by rw[z2l hats];rfl
   have hx0:(c.args.map a.eval)[0]? = some (a.eval x):=by rw[Array.getElem?_map,z2l hargs];rfl
   split at hc
   .rename_i e ax hu hx
    split at hc
    .rename_i z k hz hk
     cases hc
     refine wrap (m':=Builtin.clear_ c.argTypes o.type (c.args.map a.eval)) rfl ?_
     refine y4u hT.toTOk hH h0 hx0 (z0m hH ht hx) hu hz ?_
     simp only[z01]at h
     rw[<-h]
     unfold y93
     cases ax.ev t<;>rfl
    .cases hc
   .cases hc
  ·
   rename_i m k ty rest hargs hats
   have h0:c.argTypes[0]? = some ty:=by rw[z2l hats];rfl
   have hx0:(c.args.map a.eval)[0]? = some (a.eval m):=by rw[Array.getElem?_map,z2l hargs];rfl
   have hx1:(c.args.map a.eval)[1]? = some (a.eval k):=by rw[Array.getElem?_map,z2l hargs];rfl
   split at hc
   .rename_i kt e am ak hu hm hk
    split at hc
    .rename_i q hkk
     cases hc
     simp only[z01]at h
     split at h
     .rename_i b h1
      split at h
      .rename_i es hb
       split at h
       .rename_i hfit
        split at h
        .rename_i es' hp
         cases h
         have hmv:=z0m hH ht hm
         rw[h1]at hmv
         exact wrap (m':=Builtin.delete_ c.argTypes o.type (c.args.map a.eval)) rfl (j96 hT.toTOk hH h0 hx0 hx1 hmv (z0m hH ht hk) hu hkk hb hfit hp)
        .cases h
       .cases h
      .cases h
     .cases h
    .cases hc
   .cases hc
  .cases hc
end
theorem y9u(v:Value) :j8c v≠some .any:=by unfold j8c;split<;>simp
theorem y7o{T:Tys}{x:Operand}{ax:AOpnd}(h:opnd T x=some ax) :j7u ax=false:=by
 unfold opnd at h
 split at h
 .split at h
  .cases h;rfl
  .cases h
 .split at h
  .rename_i v a ha
   cases h
   cases a<;>first
    | rfl
    | (exfalso
       unfold z5t at ha
       split at ha
       .split at ha<;>cases ha
       .split at ha<;>cases ha
       .split at ha<;>cases ha
       .exact y9u _ ha)
  .cases h
 .split at h
  .cases h;rfl
  .cases h
 .cases h;rfl
section
variable{P:Program}{T:Tys}{B:Nat}{φ:Emb}{H:AHeap}{w:World}{nt:Nat}{t:PT AVal}{a:Act}
theorem y3n(hT:TOk2 T P)(hH:HRel T B φ H w)(ht:TRel φ nt t a.tmps){o:Oper}{ao:AOp}(hc:z2r T o.op=some ao)(hq:z0v ao=false){v:AVal}{H':AHeap}(h:z01 t H ao=some (v,H')) :
  Does P T B φ H w (execOp a.eval o) v H':=by
 have hT1:=hT.toTOk
 generalize ho:o.op=op at hc
 unfold z2r at hc
 split at hc
 .split at hc
  .cases hc;simp[z0v]at hq
  .cases hc
 .split at hc
  .cases hc;simp[z0v]at hq
  .cases hc
 .split at hc
  .cases hc;simp[z0v]at hq
  .cases hc
 ·
  split at hc
  .rename_i z hz
   cases hc;cases h
   exact(j3s hT1 ho hz).does hH false
  .cases hc
 ·
  split at hc
  .rename_i ax hx
   cases hc
   simp only[z01]at h
   split at h
   .rename_i vs hv
    cases h
    exact(y14 hH ht ho hx hv).does hH false
   .cases h
  .cases hc
 ·
  split at hc
  .split at hc
   .cases hc;simp[z0v]at hq
   .cases hc
  .split at hc
   .split at hc
    .cases hc;simp[z0v]at hq
    .cases hc
   .cases hc
  .cases hc
 ·
  split at hc
  .rename_i e hu
   split at hc
   .rename_i s z hs hz
    split at hc
    .rename_i aps hp hle
     cases hc
     simp only[z01]at h
     split at h
     .rename_i l hl
      cases h
      exact(z6o hT hH ht ho hu hs hz hp (Nat.le_of_ble_eq_true hle) hl).does hH false
     .cases h
    .cases hc
   .cases hc
  .cases hc
 ·
  split at hc
  .cases hc;simp[z0v]at hq
  .cases hc;simp[z0v]at hq
  .cases hc
 ·
  split at hc
  .rename_i n ax ay hn hx hy
   cases hc
   simp only[z01]at h
   split at h
   .rename_i b off hb
    split at h
    .rename_i vs hv
     split at h
     .rename_i hl
      split at h
      .rename_i h' hst
       cases h
       exact y4s hT1 hH ht ho hx hy hn hb hv (Nat.eq_of_beq_eq_true hl) hst
      .cases h
     .cases h
    .cases h
   .cases h
  .cases hc
 .split at hc
  .cases hc;simp[z0v]at hq
  .cases hc
 ·
  split at hc
  .split at hc
   .cases hc;simp[z0v]at hq
   .cases hc;simp[z0v]at hq
   .split at hc
    .cases hc;simp[z0v]at hq
    .cases hc;simp[z0v]at hq
    .cases hc
  .cases hc
 .split at hc
  .cases hc;simp[z0v]at hq
  .cases hc
 ·
  split at hc
  .cases hc;simp[z0v]at hq
  .cases hc;simp[z0v]at hq
  .rename_i e ax hs hd hx
   split at hc
   .rename_i he
    cases hc
    simp only[z01]at h
    split at h
    .rename_i s h1
     split at h
     .rename_i hmx
      cases h
      exact j5w hT1 hH ht ho hx hs hd he h1 (Nat.le_of_ble_eq_true hmx)
     .cases h
    .cases h
   .cases hc
  .split at hc
   .cases hc;simp[z0v]at hq
   .cases hc
  .rename_i e ax hs hd hx
   split at hc
   .rename_i hsd he
    have hsd:=Nat.eq_of_beq_eq_true hsd
    subst hsd
    cases hc
    simp only[z01]at h
    split at h
    .cases h
    .rename_i b off len cap k h1
     split at h
     .rename_i l op hb hcap
      cases h
      have hu:=hd
      exact y9o hT1 hH ht ho hx hd he h1 (by simpa[Nat.blt_eq]using hcap) hb
     .cases h
    .cases h
   .cases hc
  .cases hc
 ·
  split at hc
  .split at hc
   .split at hc
    .cases hc;simp[z0v]at hq
    .cases hc
   .cases hc
  .cases hc
 ·
  split at hc
  .split at hc
   .cases hc;simp[z0v]at hq
   .cases hc
  .split at hc
   .cases hc;simp[z0v]at hq
   .cases hc
  .cases hc
 ·
  split at hc
  .split at hc
   .split at hc
    .cases hc;simp[z0v]at hq
    .cases hc;simp[z0v]at hq
    .cases hc
   .cases hc
  .cases hc
 ·
  split at hc
  .cases hc;simp[z0v]at hq
  .split at hc
   .cases hc;simp[z0v]at hq
   .cases hc
  .cases hc
 ·
  split at hc
  .split at hc
   .cases hc;simp[z0v]at hq
   .split at hc
    .cases hc;simp[z0v]at hq
    .cases hc
   .split at hc
    .cases hc;simp[z0v]at hq
    .cases hc
   .cases hc
  .cases hc
 .split at hc
  .cases hc;simp[z0v]at hq
  .cases hc
 .split at hc
  .cases hc
  .cases hc;simp[z0v]at hq
  .cases hc
 .split at hc
  .cases hc;simp[z0v]at hq
  .cases hc
 ·
  cases hc;cases h
  exact y4t hH ho
 ·
  split at hc
  .rename_i e ax ay hu hx hy
   split at hc
   .rename_i i z hi hz
    cases hc
    simp only[z01]at h
    split at h
    .rename_i l c hl hcc
     split at h
     .rename_i g1 g2 g3
      cases h
      exact(z95 hT hH ht ho hx hy hu hi hz hl hcc (Nat.le_of_ble_eq_true g1) (Nat.le_of_ble_eq_true g2) (Nat.le_of_ble_eq_true g3)).does hH false
     .cases h
    .cases h
   .cases hc
  .cases hc
 ·
  split at hc
  .split at hc
   .cases hc;simp[z0v]at hq
   .cases hc
  .cases hc
 ·
  split at hc
  .rename_i kt e am ak ax hu hm hk hx
   split at hc
   .rename_i q hkk
    cases hc
    simp only[z01]at h
    split at h
    .rename_i b h1
     split at h
     .rename_i es hb
      split at h
      .rename_i hfit
       split at h
       .rename_i es' hp
        cases h
        simp only[j06,y7o hx]at hp
        exact j2z hT1 hH ht ho hm hk hx hu hkk h1 hb hfit hp
       .cases h
      .cases h
     .cases h
    .cases h
   .cases hc
  .cases hc
 .split at hc
  .cases hc;simp[z0v]at hq
  .cases hc
 .exact y3o hT hH ht ho hc hq h
 ·
  split at hc
  .split at hc
   .cases hc;simp[z01,quiet]at h
   .cases hc
  .cases hc
 .cases hc
theorem y0j(hT:TOk2 T P)(hH:HRel T B φ H w)(ht:TRel φ nt t a.tmps){o:Oper}{ao:AOp}(hc:z2r T o.op=some ao){v:AVal}{H':AHeap}(h:z01 t H ao=some (v,H')) :
  Does P T B φ H w (execOp a.eval o) v H':=by
 cases hq:z0v ao with
 | false=>exact y3n hT hH ht hc hq h
 | true =>
  obtain⟨h1,rfl⟩:=j8u hq h
  obtain⟨u,h2,h3⟩:=j4u hT hH ht hc h1
  exact⟨_,u,w,φ,h2,.inl rfl,h3,Sim.refl hH⟩
end
def dRel(φ:Emb) :ADef->Deferred->Prop
 | .mark p,d=>∃ x,φ p=some x/\d.target=.collected x.c
 | .fn f args,d=>∃ cap,d.target=.fn (.func f) cap/\LRel φ args (d.args++cap).toList
def j8a(φ:Emb) :List ADef->List Deferred->Prop
 | [],l=>l=[]
 | a::as,l=>∃ d ds,l=d::ds/\dRel φ a d/\j8a φ as ds
theorem dRel.mono{φ φ':Emb}(h:φ.le φ') :∀ {a:ADef} {d:Deferred},dRel φ a d->dRel φ' a d
 | .mark _,_,⟨x,h1,h2⟩=>⟨x,h _ _ h1,h2⟩
 | .fn _ _,_,⟨cap,h1,h2⟩=>⟨cap,h1,h2.mono h⟩
theorem j8a.mono{φ φ':Emb}(h:φ.le φ') :∀ {a:List ADef} {d:List Deferred},j8a φ a d->j8a φ' a d
 | [],_,e=>e
 | _::_,_,⟨d,ds,h1,h2,h3⟩=>⟨d,ds,h1,h2.mono h,h3.mono h⟩
structure ActRel (φ:Emb) (nt:Nat) (aa:AAct) (a:Act) :Prop where
 t:TRel φ nt aa.t a.tmps
 ds:j8a φ aa.ds a.defers
theorem ActRel.mono{φ φ':Emb}(h:φ.le φ'){nt:Nat}{aa:AAct}{a:Act}(r:ActRel φ nt aa a) :ActRel φ' nt aa a:=⟨r.t.mono h,r.ds.mono h⟩
def z6y:AExit->Exit
 | .normal=>.normal
 | .ret=>.ret
 | .exit id=>.exit id
 | .goto l=>.goto l
def y30(φ:Emb) :Option Pos->Option Nat->Prop
 | none,none=>True
 | some p,some c=>∃ x,φ p=some x/\c=x.c
 | _,_=>False
theorem y30.mono{φ φ':Emb}(h:φ.le φ') :∀ {ro:Option Pos} {ro':Option Nat},y30 φ ro ro'->y30 φ' ro ro'
 | none,none,_=>trivial
 | some _,some _,⟨x,h1,h2⟩=>⟨x,h _ _ h1,h2⟩
 | none,some _,h=>h.elim
 | some _,none,h=>h.elim
def FR:Option Nat->Fence
 | none=>Fence.wide
 | some l=>Fence.wide.inRound l
theorem y3k(r:Option Nat) :(FR r).round=r:=by cases r<;>rfl
theorem j22(r:Option Nat)(f:FuncId) :(FR r).fn f:=by cases r<;>trivial
theorem q26(r:Option Nat) :(FR r).depth=none:=by cases r<;>rfl
theorem j2q(r:Option Nat){p:Prop} :(FR r).depth.isSome=true->p:=by rw[q26];intro h;cases h
theorem z9o{r:Option Nat}{n m:Nat}{P:Program}{f:FuncId}{args:Array Value}{w:World}{R:Ending->World->Prop}(h:CallsIn Fence.wide n P f args w R) :CallsIn (FR r) m P f args w R:=by
 refine⟨j22 r f,fun cs _=>?_⟩
 have:=h.2 cs (fun d hd=>by cases hd)
 cases r<;>exact this
theorem y3z{r:Option Nat}{n m:Nat}{P:Program}{l:Nat}{f:FuncId}{tmps:Array Value}{assign body:Code}{w:World}{R:Ending->World->Prop}(h:RoundIn Fence.wide n P l f tmps assign body w R) :RoundIn (FR r) m P l f tmps assign body w R:=by
 refine⟨j22 r f,fun c cs _=>?_⟩
 have:=h.2 c cs (fun d hd=>by cases hd)
 cases r<;>exact this
section
variable(P:Program)(T:Tys)(B:Nat)
def Post(φ:Emb)(H:AHeap)(w:World)(nt:Nat)(e:AExit)(aa':AAct)(H':AHeap) :Exit->Act->World->Prop :=
 fun e' a' w'=>e'=z6y e/\∃ φ',Sim T B φ H w φ' H' w'/\ActRel φ' nt aa' a'
def z1p(rec:Rec) :Prop:=∀ (c:Code) (nt:Nat) (ro:Option Pos) (ro':Option Nat) (aa:AAct) (H:AHeap) (φ:Emb) (a:Act) (w:World),
 HRel T B φ H w->ActRel φ nt aa a->y30 φ ro ro'->∀ {e aa' H'},rec (comp T nt ro'.isSome c) ro aa H=some (e,aa',H')->c.wpIn (FR ro') 0 P (Post T B φ H w nt e aa' H') a w
def z4r(φ:Emb)(H:AHeap)(w:World)(f:FuncId)(args:Array Value)(v:AVal)(H':AHeap) :Prop :=
 (callFunc f args).run P w=.ok (.enter f args) w ∧
 CallsIn Fence.wide 0 P f args w fun e w'=>∃ u φ',e=.returned u/\VRel φ' v u/\Sim T B φ H w φ' H' w'
def z7q(φ:Emb)(H:AHeap)(w:World)(f:FuncId)(args:Array Value)(v:AVal)(H':AHeap) :Prop :=
 z4r P T B φ H w f args v H'\/∃ u w' φ',(callFunc f args).run P w=.ok (.value u) w'/\VRel φ' v u/\Sim T B φ H w φ' H' w'
structure EnvOk (E:Env) :Prop where
 fns:∀ f fi,f<2147483648->PT.get (Pos.ofNat f) E.fns=some fi->∃ fn,P.funcs[f]? = some fn/\(fn.name == "runtime.NumGoroutine")=false/\z46 T fn=some fi
 sums:∀ f s,f<2147483648->PT.get (Pos.ofNat f) E.sums=some s->∀ φ H w args args' v H',HRel T B φ H w->LRel φ args args'.toList->s args H=some (v,H')->z7q P T B φ H w f args' v H'
 dsums:∀ f s,f<2147483648->PT.get (Pos.ofNat f) E.dsums=some s->∀ φ H w args args' H',HRel T B φ H w->LRel φ args args'.toList->s args H=some H' →
  (callFunc f args').run P w=.ok (.enter f args') w/\CallsDIn Fence.wide 0 P f args' .returning w fun e u w'=>(∃ v,e=.returned v)/\u=.returning/\∃ φ',Sim T B φ H w φ' H' w'
end
section
variable{P:Program}{T:Tys}{B:Nat}{φ:Emb}{H:AHeap}{w:World}{nt:Nat}{t:PT AVal}{a:Act}
theorem y3g:∀ {args:List AVal} {vs:List Value} {i n:Nat} {t t':PT AVal} {pre:List Value},z48 args i n t=some t'->LRel φ args vs->pre.length=i->i+n<2^31 →
  (∀ j,j<2^31->VRel φ (tget t (Pos.ofNat j)) (pre[j]?.getD Go.undef)) →
  vs.length<=n/\∀ j,j<2^31->VRel φ (tget t' (Pos.ofNat j)) ((pre++vs)[j]?.getD Go.undef)
 | [],vs,i,n,t,t',pre,h,hl,hp,hn,ht=>by
  simp only[z48]at h
  cases h
  have:vs=[]:=hl
  subst this
  exact⟨Nat.zero_le _,by simpa using ht⟩
 | v::args,vs,i,0,t,t',pre,h,hl,hp,hn,ht=>by simp[z48]at h
 | v::args,vs,i,n+1,t,t',pre,h,hl,hp,hn,ht=>by
  simp only[z48]at h
  obtain⟨u,us,rfl,h1,h2⟩:=hl
  obtain⟨g1,g2⟩:=y3g (pre:=pre++[u]) h h2 (by simp[hp]) (by omega) (by
   intro j hj
   by_cases e:j=i
   .subst e
    unfold tget
    rw[PT.get_set_same]
    simp[hp]
    exact h1
   .have hne:Pos.ofNat i≠Pos.ofNat j:=fun h=>e (Pos.ofNat_inj (by omega) hj h).symm
    have:=ht j hj
    unfold tget at this ⊢
    rw[PT.get_set_other _ _ _ _ hne]
    have e2:(pre++[u])[j]? = pre[j]?∨((pre++[u])[j]? = none/\pre[j]? = none):=by
     rcases Nat.lt_or_ge j i with h | h
     .left;rw[List.getElem?_append_left (by omega)]
     .right
      exact⟨List.getElem?_eq_none (by simp;omega),List.getElem?_eq_none (by omega)⟩
    rcases e2 with e2 | ⟨e2,e3⟩
    .rw[e2];exact this
    .rw[e2];rw[e3]at this;exact this)
  exact⟨by simp;omega,by simpa using g2⟩
theorem q0n(p:Pos) :tget .l p=.undef:=by
 unfold tget
 cases p<;>rfl
theorem j34{args:List AVal}{vs:Array Value}{n:Nat}{t:PT AVal}(h:z48 args 0 n .l=some t)(hl:LRel φ args vs.toList)(hn:n<2^31) :
  TRel φ n t (vs++Array.replicate (n-vs.size) Go.undef):=by
 obtain⟨h1,h2⟩:=y3g (pre:=[]) h hl rfl (by omega) (fun j _=>by rw[q0n];exact VRel.undef)
 have hsz:vs.size<=n:=by simpa using h1
 refine⟨by simp;omega,hn,fun i hi=>?_⟩
 have:=h2 i hi
 have e:(vs++Array.replicate (n-vs.size) Go.undef).getD i Go.undef=([]++vs.toList)[i]?.getD Go.undef:=by
  rw[Array.getD_eq_getD_getElem?,List.nil_append,Array.getElem?_toList]
  rcases Nat.lt_or_ge i vs.size with h | h
  .rw[Array.getElem?_append_left h]
  .rw[Array.getElem?_append_right h,Array.getElem?_eq_none (xs:=vs) h]
   simp[Array.getElem?_replicate]
   split<;>rfl
 rw[e]
 exact this
def j3i(tmps:Array Value) :ResultVar->Sem Value
 | .tmp t=>pure (tmps.getD t Go.undef)
 | .cell a t=>do loadVar t (<-asAddr (tmps.getD a Go.undef))
def j3h:List AVal->AVal
 | [v]=>v
 | l=>.tup l
theorem z69(hT:TOk T P)(hH:HRel T B φ H w){tmps:Array Value}(ht:TRel φ nt t tmps) :∀ {rs:List ResultVar} {ars:List (Pos×Option Nat)} {l:List AVal},z2q T rs=some ars->z0u t H ars=some l →
  ∃ us:List Value,(rs.mapM (j3i tmps)).run P w=.ok us w/\LRel φ l us
 | [],ars,l,hc,h=>by
  simp[z2q]at hc
  subst hc
  simp[z0u]at h
  subst h
  exact⟨[],by simp,rfl⟩
 | .tmp i::rs,ars,l,hc,h=>by
  simp only[z2q]at hc
  split at hc
  .rename_i m hi hm
   cases hc
   simp only[z0u]at h
   split at h
   .rename_i l' hl
    cases h
    obtain⟨us,h1,h2⟩:=z69 hT hH ht hm hl
    have hi:i<2^31:=by simpa[Nat.blt_eq]using hi
    exact⟨tmps.getD i Go.undef::us,by simp only[List.mapM_cons,j3i,Sem.run_bind,Sem.run_pure,Result.andThen_ok,h1],_,_,rfl,ht.2.2 i hi,h2⟩
   .cases h
  .cases hc
 | .cell i ty::rs,ars,l,hc,h=>by
  simp only[z2q]at hc
  split at hc
  .rename_i n m hi hg hn hm
   cases hc
   have hi:i<2^31:=by simpa[Nat.blt_eq]using hi
   have hv:=ht.2.2 i hi
   simp only[z0u]at h
   split at h
   .rename_i b o hb
    rw[hb]at hv
    obtain⟨x,hx,e⟩:=hv
    split at h
    .rename_i v l' hlv hl
     cases h
     obtain⟨us,h1,h2⟩:=z69 hT hH ht hm hl
     obtain⟨vs,g1,g2,g3,g4⟩:=z3z (P:=P) hH hx hlv
     refine⟨.agg vs.toArray::us,?_,_,_,rfl,⟨_,rfl,by simpa using g2⟩,h2⟩
     simp only[List.mapM_cons,j3i,Sem.run_bind,e,asAddr,Sem.run_pure,Result.andThen_ok,loadVar,hT.run_isAgg hg,if_true,hT.run_size hn,g4,h1]
    .cases h
   .cases h
  .rename_i n m hi hg hn hm
   cases hc
   have hi:i<2^31:=by simpa[Nat.blt_eq]using hi
   have hv:=ht.2.2 i hi
   simp only[z0u]at h
   split at h
   .rename_i b o hb
    rw[hb]at hv
    obtain⟨x,hx,e⟩:=hv
    split at h
    .rename_i v l' hlv hl
     cases h
     obtain⟨us,h1,h2⟩:=z69 hT hH ht hm hl
     obtain⟨u,g1,g2⟩:=j5g hH hx hlv
     refine⟨u::us,?_,_,_,rfl,g2,h2⟩
     have z04:(load ⟨x.c,x.s+o,none⟩).run P w=.ok u w:=by simp[g1]
     simp only[List.mapM_cons,j3i,Sem.run_bind,e,asAddr,Sem.run_pure,Result.andThen_ok,loadVar,hT.run_isAgg hg,Bool.false_eq_true,if_false,z04,h1]
    .cases h
   .cases h
  .cases hc
theorem z7t(hT:TOk T P)(hH:HRel T B φ H w){tmps:Array Value}(ht:TRel φ nt t tmps){fn:Func}{ars:List (Pos×Option Nat)}{l:List AVal}(hc:z2q T fn.results.toList=some ars)(h:z0u t H ars=some l) :
  ∃ u,(results fn tmps).run P w=.ok u w/\VRel φ (j3h l) u:=by
 obtain⟨us,h1,h2⟩:=z69 (P:=P) hT hH ht hc h
 have hm:(fn.results.mapM (j3i tmps)).run P w=.ok us.toArray w:=by
  rw[Array.mapM_eq_mapM_toList]
  simp only[Sem.run_map,h1,Result.andThen_ok]
 have he:results fn tmps=(do
   let vs <-fn.results.mapM (j3i tmps)
   pure (if h:vs.size=1 then vs[0]else .tuple vs)):=by
  unfold results
  congr 2
 have hr:(results fn tmps).run P w=.ok (if h:us.toArray.size=1 then us.toArray[0]else .tuple us.toArray) w:=by
  rw[he]
  simp only[Sem.run_bind,hm,Result.andThen_ok,Sem.run_pure]
 rw[hr]
 refine⟨_,rfl,?_⟩
 have hlen:=h2.length
 clear h hr hm he hc
 match l,us,h2,hlen with
 | [],us,h2,hlen =>
  have:us=[]:=h2
  subst this
  exact⟨#[],rfl,rfl⟩
 | [v],us,h2,hlen =>
  obtain⟨u,us',rfl,g1,g2⟩:=h2
  have:us'=[]:=g2
  subst this
  exact g1
 | v::v'::l,us,h2,hlen =>
  have:¬ (us.toArray.size=1):=by simp at hlen ⊢;omega
  rw[dif_neg this]
  exact⟨us.toArray,rfl,by simpa using h2⟩
end
end Go.Am
