import Derived.Test.YtepncpggenncoaaGreatDoorDc2
import Derived.Test.YtepncpggenncoaaGreatDoorDc7
import Derived.Test.YtepncpggenncoaaGreatDoorDc5
import Derived.Test.YtepncpggenncoaaGreatDoorDc4
set_option linter.all false
set_option maxRecDepth 20000
set_option maxHeartbeats 8000000
section
namespace Go.Am
open Go Go.Proofs
def q0g(rs:List (Pos×Option Nat))(R:AVal->AHeap->Prop) :z2i:=fun e a H=>(e=.normal\/e=.ret)/\((a.ds=[]/\∃ v,retV (z0u a.t H rs)=some v/\R v H) ∨
 ∃ m,a.ds=[.mark m]/\PT.get m H.t=some (.dfr true)/\∃ v,retV (z0u a.t (H.kill m) rs)=some v/\R v (H.kill m))
section
variable{E:Env}{H:AHeap}{t:PT AVal}{ro:Option Pos}
theorem j84{r:Option (List AVal)}{v:AVal} :retV r=some v->(match r with | some [v]=>some v | some l=>some (.tup l) | none=>none)=some v:=by
 intro h
 rw[<-h]
 cases r with
 | none=>rfl
 | some l=>match l with
  | []=>rfl
  | [_]=>rfl
  | _::_::_=>rfl
theorem Code.fr{f:FuncId}{fi:AFun}(C:Code E f fi){n:Nat}{b:ACode}{rs:List (Pos×Option Nat)}(hc:fi=⟨n,b,rs⟩){args:List AVal}{R:AVal->AHeap->Prop}(h:WP E none b ⟨lay args .h .l,[]⟩ H (j6c rs R))(ha:Nat.ble args.length n=true:=by rfl)(h2:Nat.ble args.length 100=true:=by rfl) :∃ v H',z7r E f args H v H'/\R v H':=by
 subst hc
 have ha0:z48 args 0 n .l=some (lay args .h .l):=z63 _ 0 _ _ (Nat.le_of_ble_eq_true ha) (by have:=Nat.le_of_ble_eq_true h2;omega)
 obtain⟨e,⟨t,ds⟩,H',h,he,hds,v,hr,q⟩:=WP.w h
 have hds:ds=[]:=hds
 subst hds
 exact⟨v,H',z7r.of C.b C.g ha0 he h (j84 hr),q⟩
theorem Code.rm{f:FuncId}{fi:AFun}(C:Code E f fi){n:Nat}{b:ACode}{rs:List (Pos×Option Nat)}(hc:fi=⟨n,b,rs⟩){args:List AVal}{R:AVal->AHeap->Prop}(h:WP E none b ⟨lay args .h .l,[]⟩ H (q0g rs R))(ha:Nat.ble args.length n=true:=by rfl)(h2:Nat.ble args.length 100=true:=by rfl) :∃ v H',z0f E f args H v H'/\R v H':=by
 subst hc
 have ha0:z48 args 0 n .l=some (lay args .h .l):=z63 _ 0 _ _ (Nat.le_of_ble_eq_true ha) (by have:=Nat.le_of_ble_eq_true h2;omega)
 obtain⟨e,⟨t,ds⟩,H',h,he,hor⟩:=WP.w h
 rcases hor with⟨hds,v,hr,q⟩ | ⟨m,hds,hm,v,hr,q⟩
 .have hds:ds=[]:=hds
  subst hds
  exact⟨v,H',z0f.of C.n (z7r.of C.b C.g ha0 he h (j84 hr)),q⟩
 .have hds:ds=[.mark m]:=hds
  subst hds
  refine⟨v,H'.kill m,z0f.of C.n ?_,q⟩
  obtain⟨n0,hb⟩:=h
  refine⟨n0,fun k hn=>?_⟩
  have hr:=j84 hr
  unfold callF
  rw[C.b,C.g]
  simp only[j0c,ha0]
  rw[hb k hn]
  rcases he with rfl | rfl <;>
  .simp only[z55,hm]
   split at hr
   .rename_i heq;simp only[heq];cases hr;rfl
   .rename_i heq;cases hr;simp only[heq]
   .cases hr
theorem y7g{rs:List (Pos×Option Nat)}{R:AVal->AHeap->Prop}{v:AVal}(hr:retV (z0u t H rs)=some v)(q:R v H) :q0g rs R .ret ⟨t,[]⟩ H:=⟨.inr rfl,.inl ⟨rfl,v,hr,q⟩⟩
theorem y4e{rs:List (Pos×Option Nat)}{R:AVal->AHeap->Prop}{m:Pos}(hm:PT.get m H.t=some (.dfr true)){v:AVal}(hr:retV (z0u t (H.kill m) rs)=some v)(q:R v (H.kill m)) :q0g rs R .ret ⟨t,[.mark m]⟩ H:=⟨.inr rfl,.inr ⟨m,rfl,hm,v,hr,q⟩⟩
theorem j9c{rs:List (Pos×Option Nat)}{R:AVal->AHeap->Prop}(h:(retV (z0u t H rs)).isSome=true) :q0g rs R .ret ⟨t,[]⟩ H=R (oget (retV (z0u t H rs))) H:=by
 obtain⟨v,hv⟩:=Option.isSome_iff_exists.1 h
 rw[hv,z5f]
 refine propext ⟨fun⟨_,hor⟩=>?_,fun r=>y7g hv r⟩
 rcases hor with⟨_,w,e,r⟩ | ⟨m,e,_⟩
 .cases hv.symm.trans e
  exact r
 .cases e
theorem j1s{rs:List (Pos×Option Nat)}{R:AVal->AHeap->Prop}{m:Pos}(hm:PT.get m H.t=some (.dfr true))(h:(retV (z0u t (H.kill m) rs)).isSome=true) :q0g rs R .ret ⟨t,[.mark m]⟩ H=R (oget (retV (z0u t (H.kill m) rs))) (H.kill m):=by
 obtain⟨v,hv⟩:=Option.isSome_iff_exists.1 h
 rw[hv,z5f]
 refine propext ⟨fun⟨_,hor⟩=>?_,fun r=>y4e hm hv r⟩
 rcases hor with⟨e,_⟩ | ⟨m',e,_,w,e2,r⟩
 .cases e
 .cases e
  cases hv.symm.trans e2
  exact r
theorem j0m{f:AOpnd}{ps:List Pos}{sg bd:ACode}{a:AAct}{S:z2i} :WP E ro (.rangeFunc f ps sg bd) a H S=W E (.rangeFunc f ps sg bd) ro a H S:=rfl
theorem W.rangeF{f:AOpnd}{ps:List Pos}{sg bd:ACode}{ds:List ADef}{Q:z2i}{g:FuncId}{first caps:List AVal}(hf:f.ev t=.func g first caps)
  (h:∃ v h3,z7r E g (first++(.yld H.nx.succ::caps)) ((H.new (.dfr true)).2.new (.loop ⟨.ready,.none,t,ps,sg,bd,H.nx⟩)).2 v h3 ∧
   ∃ r,PT.get H.nx.succ h3.t=some (.loop r)/\((r.state=.ready/\r.pending=.none/\Q .normal ⟨t,.mark H.nx::ds⟩ (h3.kill H.nx.succ))\/(r.state=.done/\r.pending=.ret/\Q .ret ⟨t,.mark H.nx::ds⟩ (h3.kill H.nx.succ)))) :W E (.rangeFunc f ps sg bd) none ⟨t,ds⟩ H Q:=by
 obtain⟨v,h3,⟨n0,hc⟩,r,hr,q⟩:=h
 have hc':∀ n,n0+1<=n->∃ m,n=m+1/\callF E (ev E m) g (first++(.yld H.nx.succ::caps)) ((H.new (.dfr true)).2.new (.loop ⟨.ready,.none,t,ps,sg,bd,H.nx⟩)).2=some (v,h3):=fun n hn=>by
  obtain⟨m,rfl⟩ :∃ m,n=m+1:=⟨n-1,by omega⟩
  exact⟨m,rfl,hc m (by omega)⟩
 rcases q with⟨h1,h2,q⟩ | ⟨h1,h2,q⟩
 .refine⟨_,_,_,⟨n0+1,fun n hn=>?_⟩,q⟩
  obtain⟨m,rfl,hc⟩:=hc' n hn
  simp only[AHeap.new]at hc hr ⊢
  simp only[ev,AHeap.new,hf]
  rw[hc]
  simp only[hr,h1,h2]
 .refine⟨_,_,_,⟨n0+1,fun n hn=>?_⟩,q⟩
  obtain⟨m,rfl,hc⟩:=hc' n hn
  simp only[AHeap.new]at hc hr ⊢
  simp only[ev,AHeap.new,hf]
  rw[hc]
  simp only[hr,h1,h2]
def j0i(E:Env)(l:Pos)(args:List AVal)(H:AHeap)(b:Bool)(H':AHeap) :Prop:=∃ n0,∀ n,n0<=n->j3g (ev E n) l args H=some (.bool b,H')
def q24(l:Pos)(t0:PT AVal)(ps:List Pos)(sg bd:ACode)(dm:Pos)(R:Bool->AHeap->Prop) :z2i:=fun e a H=>a.ds=[]/\PT.get l H.t=some (.loop ⟨.busy,.none,t0,ps,sg,bd,dm⟩) ∧
 ((e=.normal/\R true (H.upd l (.loop ⟨.ready,.none,t0,ps,sg,bd,dm⟩)))\/(e=.ret/\R false (H.upd l (.loop ⟨.done,.ret,t0,ps,sg,bd,dm⟩))))
def k2b(E:Env)(l:Pos)(t0:PT AVal)(ps:List Pos)(sg bd:ACode)(dm:Pos)(H0:AHeap)(R:Bool->AHeap->Prop) :z2i:=fun e a H=>e=.normal/\H=H0/\WP E (some l) bd a (H.upd l (.loop ⟨.busy,.none,t0,ps,sg,bd,dm⟩)) (q24 l t0 ps sg bd dm R)
theorem j44{l:Pos}{t0:PT AVal}{ps:List Pos}{sg bd:ACode}{dm:Pos}{H0:AHeap}{R:Bool->AHeap->Prop}{a:AAct}(h:WP E (some l) bd a (H0.upd l (.loop ⟨.busy,.none,t0,ps,sg,bd,dm⟩)) (q24 l t0 ps sg bd dm R)) :k2b E l t0 ps sg bd dm H0 R .normal a H0:=⟨rfl,rfl,h⟩
theorem j9d{l:Pos}{t0:PT AVal}{ps:List Pos}{sg bd:ACode}{dm:Pos}{R:Bool->AHeap->Prop}(hl:PT.get l H.t=some (.loop ⟨.busy,.none,t0,ps,sg,bd,dm⟩))(h:R true (H.upd l (.loop ⟨.ready,.none,t0,ps,sg,bd,dm⟩))) :q24 l t0 ps sg bd dm R .normal ⟨t,[]⟩ H:=⟨rfl,hl,.inl ⟨rfl,h⟩⟩
theorem q6s{l:Pos}{t0:PT AVal}{ps:List Pos}{sg bd:ACode}{dm:Pos}{R:Bool->AHeap->Prop}(hl:PT.get l H.t=some (.loop ⟨.busy,.none,t0,ps,sg,bd,dm⟩))(h:R false (H.upd l (.loop ⟨.done,.ret,t0,ps,sg,bd,dm⟩))) :q24 l t0 ps sg bd dm R .ret ⟨t,[]⟩ H:=⟨rfl,hl,.inr ⟨rfl,h⟩⟩
theorem y1e{l:Pos}{args:List AVal}{t0 t1:PT AVal}{ps:List Pos}{sg bd:ACode}{dm:Pos}(hr:PT.get l H.t=some (.loop ⟨.ready,.none,t0,ps,sg,bd,dm⟩))(hp:j6z ps args t0=some t1){R:Bool->AHeap->Prop}
  (h:WP E (some l) sg ⟨t1,[]⟩ H (k2b E l t0 ps sg bd dm H R)) :∃ b H',j0i E l args H b H'/\R b H':=by
 obtain⟨e,a1,H1,⟨n0,h⟩,rfl,rfl,k⟩:=WP.w h
 obtain⟨e2,⟨t2,ds2⟩,H2,⟨n1,k⟩,hds,hl,q⟩:=WP.w k
 have hds:ds2=[]:=hds
 subst hds
 rcases q with⟨rfl,q⟩ | ⟨rfl,q⟩
 .refine⟨true,_,⟨n0+n1,fun n hn=>?_⟩,q⟩
  unfold j3g
  simp only[hr,hp]
  rw[h n (by omega)]
  simp only[hr]
  rw[k n (by omega)]
  simp only[hl]
 .refine⟨false,_,⟨n0+n1,fun n hn=>?_⟩,q⟩
  unfold j3g
  simp only[hr,hp]
  rw[h n (by omega)]
  simp only[hr]
  rw[k n (by omega)]
  simp only[hl]
theorem q6y{lp:Pos}{vs:List AVal}{b:Bool}{H':AHeap}(h:j0i E lp vs H b H'){d:Option Pos}{ds:List ADef}{l:List AOper}{Q:PT AVal->AHeap->Prop}{x:AOpnd}{args:List AOpnd}(hx:x.ev t=.yld lp)(ha:evs t args=vs) :WO E ds (⟨d,.callV x args,none⟩::l) t H Q↔WO E ds l (tput t d (.bool b)) H' Q:=by
 have hc:∃ n0,∀ n,n0<=n->z47 E (ev E n) (x.ev t) (evs t args) H=some (.bool b,H'):=by
  obtain⟨n0,h⟩:=h
  exact⟨n0,fun n hn=>by rw[hx];simp only[z47];rw[ha];exact h n hn⟩
 refine⟨?_,fun k=>WO.callV rfl hc k⟩
 obtain⟨n1,h⟩:=hc
 rintro⟨t2,H2,⟨n0,k⟩,q⟩
 exact⟨t2,H2,⟨n0+n1,fun n hn=>by rw[<-z4n (E:=E) (o:=⟨d,.callV x args,none⟩) (t:=t) (H:=H) (v:=.bool b) (H':=H') rfl rfl (h n (by omega))];exact k n (by omega)⟩,q⟩
end
theorem z1a{H:AHeap}{m p:Pos}(h:m≠p) :PT.get p (H.kill m).t=PT.get p H.t:=PT.get_set_other _ _ _ _ h
section
variable{E:Env}(C:CkS E)
include C
theorem q92{H:AHeap}{q:Pos} :z0f E 122 [.ptr q 0] H (.func 175 [] [.ptr H.nx 0]) (H.new (.cells [.ptr q 0] false false)).2:=by
 refine C.c122.re (by conv=>lhs;reduce) ?_
 simp(maxDischargeDepth:=9)only[auX]
theorem y77{H:AHeap}{F:Pos}{nm us:List Nat}(h:PHas H F nm us) :∃ r H',z0f E 60 [.ptr F 0,.str nm] H r H'/\LdR us r H'/\Keep H.nx.toNat H H':=by
 have hb:=h.b
 obtain⟨A,hA⟩ :∃ A,A=(((H.new (.cells [.snil] false false)).2.new (.cells [.snil] false false)).2.new (.cells [.int .i64 (.ofNat 0)] false false)).2:=⟨_,rfl⟩
 have s1:H.nx.succ.toNat=H.nx.toNat+1:=Pos.toNat_succ _
 have s2:H.nx.succ.succ.toNat=H.nx.toNat+2:=by rw[Pos.toNat_succ,s1]
 have eA:A.nx=H.nx.succ.succ.succ:=by rw[hA];rfl
 have nA:A.nx.toNat=H.nx.toNat+3:=by rw[eA,Pos.toNat_succ,s2]
 have kA:Keep H.nx.toNat H A:=by
  rw[hA]
  exact(z0d.trans (z0d.mono (Nat.le_of_lt z0h))).trans (z0d.mono (by rw[Nat.le_iff_lt_or_eq];exact .inl (Nat.lt_trans z0h z0h)))
 have a4:PT.get H.nx A.t=some (.cells [.snil] false false):=by
  rw[hA,(z0d (H:=((H.new (.cells [.snil] false false)).2.new (.cells [.snil] false false)).2)).get _ (Nat.lt_trans z0h z0h),(z0d (H:=(H.new (.cells [.snil] false false)).2)).get _ z0h]
  exact z0i
 have a5:PT.get H.nx.succ A.t=some (.cells [.snil] false false):=by
  rw[hA]
  exact((z0d (H:=((H.new (.cells [.snil] false false)).2.new (.cells [.snil] false false)).2) (x:=(.cells [.int .i64 (.ofNat 0)] false false))).get (H.new (.cells [.snil] false false)).2.nx z0h).trans (z0i (H:=(H.new (.cells [.snil] false false)).2))
 have a6:PT.get H.nx.succ.succ A.t=some (.cells [.int .i64 (.ofNat 0)] false false):=by
  rw[hA]
  exact z0i (H:=((H.new (.cells [.snil] false false)).2.new (.cells [.snil] false false)).2)
 obtain⟨r,H1,c1,D,K1⟩:=q60 C (h.keep kA lr)
 have n1:=K1.nx
 have kk1:Keep H.nx.toNat H H1:=kA.trans (K1.mono (by omega))
 have b4':=(K1.get H.nx (by omega)).trans a4
 have b5:=(K1.get H.nx.succ (by omega)).trans a5
 have b6:=(K1.get H.nx.succ.succ (by omega)).trans a6
 have ne (a b:Pos) (h:a.toNat≠b.toNat) :a≠b:=fun e=>h (congrArg _ e)
 rcases D with⟨hd,q,w,d1,rfl,B1,g1,q1,q2,q3⟩ | ⟨d1,rfl⟩
 rotate_left
 .refine C.c60.rm (by conv=>lhs;reduce) ?_
  subst hA
  have t4:=z0z b4' (o:=0) (vs:=[.snil]) rfl rfl
  have b5':PT.get H.nx.succ (H1.upd H.nx (.cells [.snil] false false)).t=some (.cells [.snil] false false):=by rw[z0a (ne _ _ (by omega))];exact b5
  have t5:=z0z b5' (o:=0) (vs:=[.snil]) rfl rfl
  have b6':PT.get H.nx.succ.succ ((H1.upd H.nx (.cells [.snil] false false)).upd H.nx.succ (.cells [.snil] false false)).t=some (.cells [.int .i64 (.ofNat 0)] false false):=by rw[z0a (ne _ _ (by omega)),z0a (ne _ _ (by omega))];exact b6
  have t6:=z0z b6' (o:=0) (vs:=[.int .i64 (.ofNat 90)]) rfl rfl
  have x6:PT.get H.nx.succ.succ (((H1.upd H.nx (.cells [.snil] false false)).upd H.nx.succ (.cells [.snil] false false)).upd H.nx.succ.succ (.cells [.int .i64 (.ofNat 90)] false false)).t=some (.cells [.int .i64 (.ofNat 90)] false false):=z0q
  have x5:PT.get H.nx.succ (((H1.upd H.nx (.cells [.snil] false false)).upd H.nx.succ (.cells [.snil] false false)).upd H.nx.succ.succ (.cells [.int .i64 (.ofNat 90)] false false)).t=some (.cells [.snil] false false):=by rw[z0a (ne _ _ (by omega))];exact z0q
  have x4:PT.get H.nx (((H1.upd H.nx (.cells [.snil] false false)).upd H.nx.succ (.cells [.snil] false false)).upd H.nx.succ.succ (.cells [.int .i64 (.ofNat 90)] false false)).t=some (.cells [.snil] false false):=by rw[z0a (ne _ _ (by omega)),z0a (ne _ _ (by omega))];exact z0q
  simp(maxDischargeDepth:=9)only[auX,reduceCtorEq,z0c c1,t4,t5,t6,j9c,hl_g x4,hl_g x5,hl_g x6]
  exact⟨.inl ⟨y1b d1,rfl⟩,((kk1.trans (z0s lr)).trans (z0s (by omega))).trans (z0s (by omega))⟩
 have hrow:=y6j d1
 have hlen:=(z1y d1).2.2.2.1
 have c2:=q92 C (H:=(H1.new (.cells [.snil] false false)).2) (q:=q)
 rw[nA]at B1 q1
 obtain⟨X,hX⟩ :∃ X,X=((H1.new (.cells [.snil] false false)).2.new (.cells [.ptr q 0] false false)).2:=⟨_,rfl⟩
 have eX:X.nx=H1.nx.succ.succ:=by rw[hX];rfl
 have u1:H1.nx.succ.toNat=H1.nx.toNat+1:=Pos.toNat_succ _
 have nX:X.nx.toNat=H1.nx.toNat+2:=by rw[eX,Pos.toNat_succ,u1]
 have kX:Keep H1.nx.toNat H1 X:=by rw[hX];exact z0d.trans (z0d.mono (Nat.le_of_lt z0h))
 have xp:PT.get H1.nx X.t=some (.cells [.snil] false false):=by
  rw[hX]
  exact((z0d (H:=(H1.new (.cells [.snil] false false)).2) (x:=.cells [.ptr q 0] false false)).get H1.nx z0h).trans z0i
 have xb:PT.get H1.nx.succ X.t=some (.cells [.ptr q 0] false false):=by
  rw[hX]
  exact z0i (H:=(H1.new (.cells [.snil] false false)).2)
 have u2:X.nx.succ.toNat=X.nx.toNat+1:=Pos.toNat_succ _
 refine C.c60.rm (by conv=>lhs;reduce) ?_
 subst hA
 simp(maxDischargeDepth:=9)only[auX,z0c c1,z0c c2,j0m]
 rw[<-hX]
 refine W.rangeF rfl ?_
 generalize hr:ALoop.mk _ _ _ _ _ _ _=r
 obtain⟨Y,hY⟩ :∃ Y,Y=((X.new (.dfr true)).2.new (.loop r)).2:=⟨_,rfl⟩
 have nY:Y.nx.toNat=X.nx.toNat+2:=by rw[hY];show X.nx.succ.succ.toNat=_;rw[Pos.toNat_succ,u2]
 have kY:Keep X.nx.toNat X Y:=by rw[hY];exact z0d.trans (z0d.mono (Nat.le_of_lt z0h))
 have ym:PT.get X.nx Y.t=some (.dfr true):=by
  rw[hY]
  exact((z0d (H:=(X.new (.dfr true)).2) (x:=.loop r)).get X.nx z0h).trans z0i
 have yl:PT.get X.nx.succ Y.t=some (.loop r):=by
  rw[hY]
  exact z0i (H:=(X.new (.dfr true)).2)
 rw[<-hY]
 have y4:=(kY.get H.nx (by omega)).trans ((kX.get H.nx (by omega)).trans b4')
 have y5:=(kY.get H.nx.succ (by omega)).trans ((kX.get H.nx.succ (by omega)).trans b5)
 have y6:=(kY.get H.nx.succ.succ (by omega)).trans ((kX.get H.nx.succ.succ (by omega)).trans b6)
 have yp:=(kY.get H1.nx (by omega)).trans xp
 have yb:=(kY.get H1.nx.succ (by omega)).trans xb
 have yq:=(kY.get q (by omega)).trans ((kX.get q q2).trans g1)
 have kkY:Keep H.nx.toNat H Y:=(kk1.trans (kX.mono (by omega))).trans (kY.mono (by omega))
 have Bw:Bo (H.nx.toNat+3) Y w hd:=(B1.keep kX lr).keep kY lr
 have hw1:∀ p,blk w p->p.toNat<H1.nx.toNat:=fun p hp=>B1.by.1.blk_lt p hp
 obtain⟨v,h3,hcl,hAB⟩ :∃ v h3,z7r E 175 [.yld X.nx.succ,.ptr H1.nx.succ 0] Y v h3/\(Y.nx.toNat<=h3.nx.toNat/\((∃ (l:AVal) (zs:List (AVal×List Nat)),rows us=some (hd,zs.map (·.2))/\PT.get X.nx.succ h3.t=some (.loop r)/\PT.get H1.nx h3.t=some (.cells [l] false false)/\(∀ p:Pos,p.toNat<Y.nx.toNat->p≠q->p≠X.nx.succ->p≠H1.nx->PT.get p h3.t=PT.get p Y.t)/\GO 1 Y.nx.toNat h3 l zs.length (zs.map (·.1))/\∀ z∈zs,Bo Y.nx.toNat h3 z.1 z.2) ∨
   (rows us=none/\PT.get X.nx.succ h3.t=some (.loop { r with state:=.done,pending:=.ret })/\PT.get H.nx h3.t=some (.cells [.snil] false false)/\PT.get H.nx.succ h3.t=some (.cells [.snil] false false)/\PT.get H.nx.succ.succ h3.t=some (.cells [.int .i64 (.ofNat 90)] false false)/\PT.get X.nx h3.t=some (.dfr true)/\∀ p:Pos,p.toNat<H.nx.toNat->PT.get p h3.t=PT.get p Y.t))):=by
  refine C.c175.fr (by conv=>lhs;reduce) ?_
  simp(maxDischargeDepth:=9)only[auX]
  refine W.loopI (fun f t H'=>∃ (at' ct:Nat) (l:AVal) (zs:List (AVal×List Nat)),PT.get .h t=some (.yld X.nx.succ)/\PT.get (.o .h) t=some (.ptr H1.nx.succ 0)/\PT.get q H'.t=some (.cells (RdC F nm at' ct) false false)/\PT.get X.nx.succ H'.t=some (.loop r)/\PT.get H1.nx H'.t=some (.cells [l] false false)/\Y.nx.toNat<=H'.nx.toNat/\(∀ p:Pos,p.toNat<Y.nx.toNat->p≠q->p≠X.nx.succ->p≠H1.nx->PT.get p H'.t=PT.get p Y.t)/\GO 1 Y.nx.toNat H' l zs.length (zs.map (·.1))/\(∀ z∈zs,Bo Y.nx.toNat H' z.1 z.2/\∀ p,blk z.1 p->¬ blk l p)/\ct=zs.length/\ct<=at'/\at'<=us.length/\(us.drop at').length<f/\rows us=(row f ct (us.drop at')).map fun ds=>(hd,zs.map (·.2)++ds)) ?_ us.length _ _ ⟨12+hd.length,0,.snil,[],rfl,rfl,yq,yl,yp,lr,fun _ _ _ _ _=>rfl,GO.nil,fun z hz=>by(cases hz),rfl,by omega,hlen,by rw[List.length_drop];omega,hrow⟩
  rintro f t H' ⟨at',ct,l,zs,t0,t1,gq,gl,gp,hn,hfr,hG,hz,hct,ha,hal,hf,hrw⟩
  obtain⟨f,rfl⟩ :∃ m,f=m+1:=⟨f-1,by omega⟩
  have kH:Keep H.nx.toNat H H':=⟨by have:=kkY.nx;omega,fun p hp=>by rw[hfr p (by omega) (ne _ _ (by omega)) (ne _ _ (by omega)) (ne _ _ (by omega)),kkY.get _ hp]⟩
  obtain⟨rv,H2,c3,D,KB⟩:=k0i C h kH (by omega) (by omega) gq (by omega) (by omega)
  have gb:PT.get H1.nx.succ H'.t=some (.cells [.ptr q 0] false false):=(hfr _ (by omega) (ne _ _ (by omega)) (ne _ _ (by omega)) (ne _ _ (by omega))).trans yb
  have n2:=KB.nx
  have l2':=(KB.get X.nx.succ (by omega) (ne _ _ (by omega))).trans gl
  have p2':=(KB.get H1.nx (by omega) (ne _ _ (by omega))).trans gp
  have fr2:∀ p:Pos,p.toNat<Y.nx.toNat->p≠q->p≠X.nx.succ->p≠H1.nx->PT.get p H2.t=PT.get p Y.t:=fun p h1 h2 h3 h4=>(KB.get p (by omega) h2).trans (hfr p h1 h2 h3 h4)
  have G2:GO 1 Y.nx.toNat H2 l zs.length (zs.map (·.1)):=⟨hG.1.other (fun p hp=>KB.get p (hG.1.rd.blk_lt p hp) (ne _ _ (by have:=hG.2 p hp;omega))) n2,hG.2⟩
  have z2:∀ z∈zs,Bo Y.nx.toNat H2 z.1 z.2:=fun z hzz=>(hz z hzz).1.other (fun p hp=>KB.get p ((hz z hzz).1.by.1.blk_lt p hp) (ne _ _ (by have:=(hz z hzz).1.1.2 p hp;omega))) n2
  rcases D with⟨p,wp,d2,rfl,B2,g2⟩ | ⟨p,d2,d3,d4,rfl⟩ | ⟨d2,d3,rfl⟩
  .have hp:=z1y d2
   have hup:=hp.2.2.2.1
   rw[List.length_drop]at hup
   obtain⟨bb,H5,cy,rfl,ln,E1,E2,E3,E4,E5,E6,E7⟩ :∃ bb H5,j0i E X.nx.succ [wp,.int .i64 (.ofNat 0)] H2 bb H5/\(bb=true/\∃ ln,PT.get q H5.t=some (.cells (RdC F nm (at'+(12+p.length)) (ct+1)) false false)/\PT.get X.nx.succ H5.t=some (.loop r)/\PT.get H1.nx H5.t=some (.cells [ln] false false)/\Y.nx.toNat<=H5.nx.toNat/\(∀ p:Pos,p.toNat<Y.nx.toNat->p≠q->p≠X.nx.succ->p≠H1.nx->PT.get p H5.t=PT.get p Y.t)/\GO 1 Y.nx.toNat H5 ln (zs.length+1) (zs.map (·.1)++[wp])/\∀ z∈zs++[(wp,p)],Bo Y.nx.toNat H5 z.1 z.2/\∀ p,blk z.1 p->¬ blk ln p):=by
    subst hr
    refine y1e l2' rfl ?_
    simp(maxDischargeDepth:=9)only[auX]
    refine j44 ?_
    generalize hrb:ALoop.mk .busy _ _ _ _ _ _=rb
    obtain⟨Hb,hHb⟩ :∃ Hb,Hb=H2.upd X.nx.succ (.loop rb):=⟨_,rfl⟩
    rw[<-hHb]
    have bn:Hb.nx=H2.nx:=by rw[hHb];rfl
    have bg:∀ p:Pos,p≠X.nx.succ->PT.get p Hb.t=PT.get p H2.t:=fun p hp=>by rw[hHb];exact z0a (Ne.symm hp)
    have lb:PT.get X.nx.succ Hb.t=some (.loop rb):=by rw[hHb];exact z0q
    have Gb:GO 1 Y.nx.toNat Hb l zs.length (zs.map (·.1)):=⟨G2.1.other (fun p hp=>bg p (ne _ _ (by have:=G2.2 p hp;omega))) (by rw[bn];exact lr),G2.2⟩
    obtain⟨l2,H3,a3,G3,K3,fr3,fb,n3⟩:=z2u (by':=24) (by omega) Gb (by rw[bn];omega) (row:=[wp]) rfl (by rw[z0p B2.by.sc.2.1];rfl) (by omega)
    rw[bn]at fr3 fb n3
    have gpb:PT.get H1.nx Hb.t=some (.cells [l] false false):=(bg _ (ne _ _ (by omega))).trans p2'
    have gp3:PT.get H1.nx H3.t=some (.cells [l] false false):=(K3.get _ (by omega)).trans gpb
    have sl2:=And.intro G3.1.rd.scal G3.1.rd.same
    have st:=z0z gp3 (o:=0) (vs:=[l2]) (by rw[z0p sl2.1];rfl) rfl
    simp(maxDischargeDepth:=9)only[auX,hl_g gpb,z0r a3,st,B2.by.sc,sl2]
    have lb2:PT.get X.nx.succ (H3.upd H1.nx (.cells [l2] false false)).t=some (.loop rb):=by rw[z0a (ne _ _ (by omega)),fr3 _ (by omega) (fun e=>by have:=hG.2 _ e;omega)];exact lb
    have key:∀ (o:AObj) (y:AVal×List Nat),Bo Y.nx.toNat H2 y.1 y.2->(∀ p,blk y.1 p->¬ blk l p)->Bo Y.nx.toNat ((H3.upd H1.nx (.cells [l2] false false)).upd X.nx.succ o) y.1 y.2/\∀ p,blk y.1 p->¬ blk l2 p:=fun o y hy hyl =>
     ⟨hy.other (fun p hp=>by
      have h5:=hy.1.2 p hp
      have h6:=hy.by.1.blk_lt p hp
      rw[z0a (ne _ _ (by omega)),z0a (ne _ _ (by omega)),fr3 p h6 (hyl p hp),bg p (ne _ _ (by omega))]) (by show H2.nx.toNat<=H3.nx.toNat;omega),fun p hp e=>by have:=fb p e;have:=hy.by.1.blk_lt p hp;omega⟩
    subst hrb
    refine j9d lb2 ⟨rfl,l2,?_,z0q,?_,?_,?_,?_,?_⟩
    .rw[z0a (ne _ _ (by omega)),z0a (ne _ _ (by omega)),K3.get _ (by omega),bg _ (ne _ _ (by omega))];exact g2
    .rw[z0a (ne _ _ (by omega))];exact z0q
    .show Y.nx.toNat<=H3.nx.toNat;omega
    .intro z h1 h2 h3 h4
     rw[z0a (Ne.symm h3),z0a (Ne.symm h4),K3.get _ h1,bg _ h3]
     exact fr2 z h1 h2 h3 h4
    .exact⟨(G3.1.other (fun z hz=>z0a (ne _ _ (by have:=fb z hz;omega))) lr).other (fun z hz=>z0a (ne _ _ (by have:=fb z hz;omega))) lr,G3.2⟩
    .intro z hzz
     rcases List.mem_append.1 hzz with hzz | hzz
     .exact key _ z (z2 z hzz) (hz z hzz).2
     .obtain rfl:z=(wp,p):=by simpa using hzz
      exact key _ _ (B2.mono hn) (fun x hx e=>by have:=B2.1.2 x hx;have:=hG.1.rd.blk_lt x e;omega)
   simp(maxDischargeDepth:=9)only[auX,bq,t0,t1,hl_g gb,z0c c3,q6y cy]
   refine⟨f,by omega,at'+(12+p.length),ct+1,ln,zs++[(wp,p)],E1,E2,E3,E4,E5,?_,E7,by simp[hct],by omega,by omega,?_,?_⟩
   .rw[List.map_append,List.length_append];exact E6
   .rw[<-List.drop_drop,List.length_drop]
    have:=hp.2.2.2.1
    omega
   .rw[hrw,j4s d2,List.drop_drop,Option.map_map]
    congr 1
    funext ds
    simp
  .simp(maxDischargeDepth:=9)only[auX,t1,hl_g gb,z0c c3]
   exact⟨by omega,.inl ⟨l,zs,by rw[hrw,y6l d2 d3 d4];simp,l2',p2',fr2,G2,z2⟩⟩
  .obtain⟨bb,H5,cy,rfl,E0,E1,E2,E3,E4,E5,E6⟩ :∃ bb H5,j0i E X.nx.succ [.snil,.int .i64 (.ofNat 90)] H2 bb H5/\(bb=false/\Y.nx.toNat<=H5.nx.toNat/\PT.get X.nx.succ H5.t=some (.loop { r with state:=.done,pending:=.ret })/\PT.get H.nx H5.t=some (.cells [.snil] false false)/\PT.get H.nx.succ H5.t=some (.cells [.snil] false false)/\PT.get H.nx.succ.succ H5.t=some (.cells [.int .i64 (.ofNat 90)] false false)/\PT.get X.nx H5.t=some (.dfr true)/\∀ p:Pos,p.toNat<H.nx.toNat->PT.get p H5.t=PT.get p Y.t):=by
    subst hr
    refine y1e l2' rfl ?_
    simp(maxDischargeDepth:=9)only[auX]
    refine j44 ?_
    generalize hrb:ALoop.mk .busy _ _ _ _ _ _=rb
    obtain⟨Hb,hHb⟩ :∃ Hb,Hb=H2.upd X.nx.succ (.loop rb):=⟨_,rfl⟩
    rw[<-hHb]
    have bn:Hb.nx=H2.nx:=by rw[hHb];rfl
    have bg:∀ p:Pos,p≠X.nx.succ->PT.get p Hb.t=PT.get p H2.t:=fun p hp=>by rw[hHb];exact z0a (Ne.symm hp)
    have lb:PT.get X.nx.succ Hb.t=some (.loop rb):=by rw[hHb];exact z0q
    have v4:=(bg H.nx (ne _ _ (by omega))).trans ((fr2 H.nx (by omega) (ne _ _ (by omega)) (ne _ _ (by omega)) (ne _ _ (by omega))).trans y4)
    have v5:=(bg H.nx.succ (ne _ _ (by omega))).trans ((fr2 H.nx.succ (by omega) (ne _ _ (by omega)) (ne _ _ (by omega)) (ne _ _ (by omega))).trans y5)
    have v6:=(bg H.nx.succ.succ (ne _ _ (by omega))).trans ((fr2 H.nx.succ.succ (by omega) (ne _ _ (by omega)) (ne _ _ (by omega)) (ne _ _ (by omega))).trans y6)
    have t4:=z0z v4 (o:=0) (vs:=[.snil]) rfl rfl
    have v5':PT.get H.nx.succ (Hb.upd H.nx (.cells [.snil] false false)).t=some (.cells [.snil] false false):=by rw[z0a (ne _ _ (by omega))];exact v5
    have t5:=z0z v5' (o:=0) (vs:=[.snil]) rfl rfl
    have v6':PT.get H.nx.succ.succ ((Hb.upd H.nx (.cells [.snil] false false)).upd H.nx.succ (.cells [.snil] false false)).t=some (.cells [.int .i64 (.ofNat 0)] false false):=by rw[z0a (ne _ _ (by omega)),z0a (ne _ _ (by omega))];exact v6
    have t6:=z0z v6' (o:=0) (vs:=[.int .i64 (.ofNat 90)]) rfl rfl
    simp(maxDischargeDepth:=9)only[auX,reduceCtorEq,t4,t5,t6]
    have lb2:PT.get X.nx.succ (((Hb.upd H.nx (.cells [.snil] false false)).upd H.nx.succ (.cells [.snil] false false)).upd H.nx.succ.succ (.cells [.int .i64 (.ofNat 90)] false false)).t=some (.loop rb):=by rw[z0a (ne _ _ (by omega)),z0a (ne _ _ (by omega)),z0a (ne _ _ (by omega))];exact lb
    subst hrb
    refine q6s lb2 ⟨rfl,?_,z0q,?_,?_,?_,?_,?_⟩
    .show Y.nx.toNat<=Hb.nx.toNat;rw[bn];omega
    .rw[z0a (ne _ _ (by omega)),z0a (ne _ _ (by omega)),z0a (ne _ _ (by omega))];exact z0q
    .rw[z0a (ne _ _ (by omega)),z0a (ne _ _ (by omega))];exact z0q
    .rw[z0a (ne _ _ (by omega))];exact z0q
    .rw[z0a (ne _ _ (by omega)),z0a (ne _ _ (by omega)),z0a (ne _ _ (by omega)),z0a (ne _ _ (by omega)),bg _ (ne _ _ (by omega)),fr2 _ (by omega) (ne _ _ (by omega)) (ne _ _ (by omega)) (ne _ _ (by omega))];exact ym
    .intro p hp
     rw[z0a (ne _ _ (by omega)),z0a (ne _ _ (by omega)),z0a (ne _ _ (by omega)),z0a (ne _ _ (by omega)),bg _ (ne _ _ (by omega)),fr2 _ (by omega) (ne _ _ (by omega)) (ne _ _ (by omega)) (ne _ _ (by omega))]
   simp(maxDischargeDepth:=9)only[auX,reduceCtorEq,t0,t1,hl_g gb,z0c c3,q6y cy]
   exact⟨E0,.inr ⟨by rw[hrw,y6n d2 d3];rfl,E1,E2,E3,E4,E5,E6⟩⟩
 refine⟨v,h3,hcl,?_⟩
 obtain⟨n3,⟨l,zs,E1,E2,E3,E4,E5,E6⟩ | ⟨E1,E2,E3,E4,E5,E6,E7⟩⟩:=hAB
 .refine⟨r,E2,.inl ⟨by subst hr;rfl,by subst hr;rfl,?_⟩⟩
  have z4:=(E4 H.nx (by omega) (ne _ _ (by omega)) (ne _ _ (by omega)) (ne _ _ (by omega))).trans y4
  have z5:=(E4 H.nx.succ (by omega) (ne _ _ (by omega)) (ne _ _ (by omega)) (ne _ _ (by omega))).trans y5
  have z6:=(E4 H.nx.succ.succ (by omega) (ne _ _ (by omega)) (ne _ _ (by omega)) (ne _ _ (by omega))).trans y6
  have zm:=(E4 X.nx (by omega) (ne _ _ (by omega)) (ne _ _ (by omega)) (ne _ _ (by omega))).trans ym
  obtain⟨Z,hZ⟩ :∃ Z,Z=h3.kill X.nx.succ:=⟨_,rfl⟩
  have zk:∀ p:Pos,p≠X.nx.succ->PT.get p Z.t=PT.get p h3.t:=fun p hp=>by rw[hZ];exact z1a (Ne.symm hp)
  have zn:Z.nx=h3.nx:=by rw[hZ];rfl
  rw[<-hZ]
  have sw:=B1.by.sc
  have sl:=And.intro E5.1.rd.scal E5.1.rd.same
  have zp:=(zk H1.nx (ne _ _ (by omega))).trans E3
  have t4:=z0z ((zk H.nx (ne _ _ (by omega))).trans z4) (o:=0) (vs:=[w]) (by rw[z0p sw.2.1];rfl) rfl
  have v5:PT.get H.nx.succ (Z.upd H.nx (.cells [w] false false)).t=some (.cells [.snil] false false):=by rw[z0a (ne _ _ (by omega)),zk _ (ne _ _ (by omega))];exact z5
  have t5:=z0z v5 (o:=0) (vs:=[l]) (by rw[z0p sl.1];rfl) rfl
  have v6:PT.get H.nx.succ.succ ((Z.upd H.nx (.cells [w] false false)).upd H.nx.succ (.cells [l] false false)).t=some (.cells [.int .i64 (.ofNat 0)] false false):=by rw[z0a (ne _ _ (by omega)),z0a (ne _ _ (by omega)),zk _ (ne _ _ (by omega))];exact z6
  have t6:=z0z v6 (o:=0) (vs:=[.int .i64 (.ofNat 0)]) rfl rfl
  have zp1:PT.get H1.nx (Z.upd H.nx (.cells [w] false false)).t=some (.cells [l] false false):=by rw[z0a (ne _ _ (by omega))];exact zp
  have zp2:PT.get H1.nx ((Z.upd H.nx (.cells [w] false false)).upd H.nx.succ (.cells [l] false false)).t=some (.cells [l] false false):=by rw[z0a (ne _ _ (by omega))];exact zp1
  obtain⟨Zf,hZf⟩ :∃ Zf,Zf=((Z.upd H.nx (.cells [w] false false)).upd H.nx.succ (.cells [l] false false)).upd H.nx.succ.succ (.cells [.int .i64 (.ofNat 0)] false false):=⟨_,rfl⟩
  have t6:z05 ((Z.upd H.nx (.cells [w] false false)).upd H.nx.succ (.cells [l] false false)) H.nx.succ.succ 0 [.int .i64 (.ofNat 0)]=some Zf:=by rw[hZf];exact t6
  have zp3:PT.get H1.nx Zf.t=some (.cells [l] false false):=by rw[hZf,z0a (ne _ _ (by omega))];exact zp2
  have fm:PT.get X.nx Zf.t=some (.dfr true):=by rw[hZf,z0a (ne _ _ (by omega)),z0a (ne _ _ (by omega)),z0a (ne _ _ (by omega)),zk _ (ne _ _ (by omega))];exact zm
  have f4:PT.get H.nx (Zf.kill X.nx).t=some (.cells [w] false false):=by rw[z1a (ne _ _ (by omega)),hZf,z0a (ne _ _ (by omega)),z0a (ne _ _ (by omega))];exact z0q
  have f5:PT.get H.nx.succ (Zf.kill X.nx).t=some (.cells [l] false false):=by rw[z1a (ne _ _ (by omega)),hZf,z0a (ne _ _ (by omega))];exact z0q
  have f6:PT.get H.nx.succ.succ (Zf.kill X.nx).t=some (.cells [.int .i64 (.ofNat 0)] false false):=by rw[z1a (ne _ _ (by omega)),hZf];exact z0q
  have fin:∀ p:Pos,p≠H.nx->p≠H.nx.succ->p≠H.nx.succ.succ->p≠X.nx->p≠X.nx.succ->PT.get p (Zf.kill X.nx).t=PT.get p h3.t:=fun p h1 h2 h3 h4 h5=>by rw[z1a (Ne.symm h4),hZf,z0a (Ne.symm h3),z0a (Ne.symm h2),z0a (Ne.symm h1),zk _ h5]
  have fn:(Zf.kill X.nx).nx=h3.nx:=by rw[<-zn,hZf];rfl
  simp(maxDischargeDepth:=9)only[auX,reduceCtorEq,Nat.reduceAnd,hl_g zp,hl_g zp1,t4,t5,t6,sw,sl,j1s fm,hl_g f4,hl_g f5,hl_g f6]
  refine⟨.inr ⟨hd,zs.map (·.2),w,l,E1,rfl,?_,zs,rfl,?_,?_⟩,?_,?_⟩
  .exact Bw.by.other (fun p hp=>by
    have h1:=hw1 p hp
    have h2:=Bw.1.2 p hp
    rw[fin p (ne _ _ (by omega)) (ne _ _ (by omega)) (ne _ _ (by omega)) (ne _ _ (by omega)) (ne _ _ (by omega)),E4 p (by omega) (fun e=>q3 (e▸hp)) (ne _ _ (by omega)) (ne _ _ (by omega))]) (by rw[fn];exact n3)
  .exact E5.1.rd.other (fun p hp=>by
    have h2:=E5.2 p hp
    rw[fin p (ne _ _ (by omega)) (ne _ _ (by omega)) (ne _ _ (by omega)) (ne _ _ (by omega)) (ne _ _ (by omega))]) (by rw[fn];exact lr)
  .exact fun z hz=>(E6 z hz).by.other (fun p hp=>by
    have h2:=(E6 z hz).1.2 p hp
    rw[fin p (ne _ _ (by omega)) (ne _ _ (by omega)) (ne _ _ (by omega)) (ne _ _ (by omega)) (ne _ _ (by omega))]) (by rw[fn];exact lr)
  .rw[fn];have:=kkY.nx;omega
  .intro p hp
   rw[fin p (ne _ _ (by omega)) (ne _ _ (by omega)) (ne _ _ (by omega)) (ne _ _ (by omega)) (ne _ _ (by omega)),E4 p (by omega) (ne _ _ (by omega)) (ne _ _ (by omega)) (ne _ _ (by omega)),kkY.get p hp]
 .refine⟨_,E2,.inr ⟨rfl,rfl,?_⟩⟩
  have zk:∀ p:Pos,p≠X.nx.succ->p≠X.nx->PT.get p ((h3.kill X.nx.succ).kill X.nx).t=PT.get p h3.t:=fun p hp h2=>by rw[z1a (Ne.symm h2),z1a (Ne.symm hp)]
  have fm:PT.get X.nx (h3.kill X.nx.succ).t=some (.dfr true):=by rw[z1a (ne _ _ (by omega))];exact E6
  have f4:=(zk H.nx (ne _ _ (by omega)) (ne _ _ (by omega))).trans E3
  have f5:=(zk H.nx.succ (ne _ _ (by omega)) (ne _ _ (by omega))).trans E4
  have f6:=(zk H.nx.succ.succ (ne _ _ (by omega)) (ne _ _ (by omega))).trans E5
  simp(maxDischargeDepth:=9)only[auX,j1s fm,hl_g f4,hl_g f5,hl_g f6]
  refine⟨.inl ⟨E1,rfl⟩,?_,?_⟩
  .show H.nx.toNat<=h3.nx.toNat;have:=kkY.nx;omega
  .intro p hp
   rw[zk p (ne _ _ (by omega)) (ne _ _ (by omega)),E7 p hp,kkY.get p hp]
end
theorem j3w:∀ {fl:List PF},(∀ f∈fl,f.nm.length<=100000)->z7w (fl.map PF.nk)=some (fl.map PF.nm)
 | [],_=>rfl
 | f::fl,h=>by
  simp only[List.map_cons,PF.nk,z7w,y8i,z4u (h f (by simp))]
  have:=j3w (fl:=fl) (fun f hf=>h f (by simp[hf]))
  simp only[this]
theorem y5y:∀ l:List (List Nat),z43 l=l.map AVal.str
 | []=>rfl
 | s::l=>by simp only[z43,List.map_cons,y5y l]
section
variable{E:Env}(C:CkS E)
include C
theorem y8h{H:AHeap}{m:Pos} :z0f E 118 [.map m] H (.func 172 [] [.ptr H.nx 0]) (H.new (.cells [.map m] false false)).2:=by
 refine C.c118.re (by conv=>lhs;reduce) ?_
 simp(maxDischargeDepth:=9)only[auX]
theorem y55{H:AHeap}{m:Pos}{fl:List PF}{ss:List (List Nat)}(hm:PT.get m H.t=some (.map (fl.map PF.nk)))(hlt:m.toNat<H.nx.toNat)(hl:∀ f∈fl,f.nm.length<=100000)(hn:fl.length<=100000)(hs:z4t (fl.map PF.nm)=ss)(hr:z3q ss=true)(hsl:ss.length=fl.length) :
  ∃ v H',z0f E 117 [.func 172 [] [.ptr H.nx 0]] (H.new (.cells [.map m] false false)).2 v H'/\Rd 1 H' v ss.length (ss.map AVal.str)/\Keep H.nx.toNat H H':=by
 have k0:Keep H.nx.toNat H (H.new (.cells [.map m] false false)).2:=z0d
 have g0:PT.get H.nx (H.new (.cells [.map m] false false)).2.t=some (.cells [.map m] false false):=z0i
 have gm:=(k0.get m hlt).trans hm
 by_cases h0:fl=[]
 .subst h0
  have:ss=[]:=List.eq_nil_of_length_eq_zero hsl
  subst this
  refine⟨.snil,_,z0f.sum C.s117 ?_,⟨rfl,.inl ⟨rfl,rfl⟩⟩,k0⟩
  simp only[z5o,g0,gm]
  rfl
 .obtain⟨f,fs,hf⟩ :∃ f fs,fl.map PF.nm=f::fs:=by
   cases fl with
   | nil=>exact absurd rfl h0
   | cons f fs=>exact⟨f.nm,fs.map PF.nm,rfl⟩
  have k1:Keep _ _ ((H.new (.cells [.map m] false false)).2.new (.cells (z43 ss) true false)).2:=z0d
  refine⟨.sl (H.new (.cells [.map m] false false)).2.nx 0 ss.length ss.length 1,_,z0f.sum C.s117 (?_:_=some (_,((H.new (.cells [.map m] false false)).2.new (.cells (z43 ss) true false)).2)),⟨by simp,.inr ⟨_,0,_,1,rfl,?_,.inr rfl,lr,z0h⟩⟩,k0.trans (k1.mono (Nat.le_of_lt z0h))⟩
  .have h1:Nat.ble ss.length 100000=true:=z4u (by omega)
   have h2:(f::fs).length=ss.length:=by rw[<-hf,List.length_map,hsl]
   have b1:Nat.beq 172 172=true:=rfl
   have b2:Nat.beq 0 0=true:=rfl
   simp only[z5o,g0,gm,j3w hl,b1,b2]
   rw[hf]at hs ⊢
   simp only[h2,h1,hs,hr]
   rfl
  .rw[z2x z0i,y5y]
   rw[Nat.mul_one,z27 (by simp)]
   exact congrArg some (List.take_of_length_le (by simp))
theorem q1n{H:AHeap}{F m l h:Pos}{pv:AVal}{fl:List PF}{nl np ct:Nat}(s:PSt H F m l h pv fl nl np ct){ss:List (List Nat)}(hl:∀ f∈fl,f.nm.length<=100000)(hn:fl.length<=100000)(hs:z4t (fl.map PF.nm)=ss)(hr:z3q ss=true)(hsl:ss.length=fl.length) :
  ∃ v H',z0f E 112 [.ptr F 0] H v H'/\Rd 1 H' v ss.length (ss.map AVal.str)/\Keep H.nx.toNat H H':=by
 obtain⟨v,H',c,r,k⟩:=y55 C s.gm (s.top m (by simp)) hl hn hs hr hsl
 refine⟨v,H',?_,r,k⟩
 refine C.c112.re (by conv=>lhs;reduce) ?_
 simp(maxDischargeDepth:=9)only[auX,zA,hl_g s.fs,z0c (y8h C (H:=H) (m:=m)),z0c c]
theorem q6x{H:AHeap}{F m l h:Pos}{pv:AVal}{fl:List PF}{nl np ct:Nat}(s:PSt H F m l h pv fl nl np ct) :z0f E 52 [.ptr F 0] H (.int .i64 (.ofNat np)) H:=by
 obtain⟨cs,g⟩:=s.gp
 refine C.c52.re (by conv=>lhs;reduce) ?_
 simp(maxDischargeDepth:=9)only[auX,zA,hl_g s.fs,g.rd.len]
theorem q98{H:AHeap}{F m l h:Pos}{pv:AVal}{fl:List PF}{nl np ct:Nat}(s:PSt H F m l h pv fl nl np ct) :z0f E 16 [.ptr F 0] H (.int .i64 (.ofNat ct)) H:=by
 refine C.c16.re (by conv=>lhs;reduce) ?_
 simp(maxDischargeDepth:=9)only[auX,zA,hl_g s.fs]
theorem q07{H:AHeap}{F m l h:Pos}{pv:AVal}{fl:List PF}{nl np ct:Nat}(s:PSt H F m l h pv fl nl np ct) :z0f E 57 [.ptr F 0] H (.bool true) H:=by
 refine C.c57.re (by conv=>lhs;reduce) ?_
 simp(maxDischargeDepth:=9)only[auX,zA,hl_g s.fs]
theorem q7c{H:AHeap}{F m l h:Pos}{pv:AVal}{fl:List PF}{np ct:Nat}(s:PSt H F m l h pv fl fl.length np ct){gs:List PF}(hl:∀ f∈fl,f.nm.length<=100000)(hn:fl.length<=1000)(hs:z4t (fl.map PF.nm)=gs.map PF.nm)(hr:z3q (gs.map PF.nm)=true)(hsl:gs.length=fl.length)(hgs:∀ f∈gs,f∈fl)(hb:∀ f∈fl,f.sy<=f.bs.length/\f.bs.length<=1000000) :
  ∃ v H',z0f E 51 [.ptr F 0] H v H'/\z5l H' v (gs.map fun f=>(f.nm,f.bs.take f.sy))/\Keep H.nx.toNat H H':=by
 have gl:=s.gl
 rw[List.take_length]at gl
 obtain⟨sv,HS,c,r,kS⟩:=y55 C gl (s.top l (by simp)) hl (by omega) hs hr (by simpa using hsl)
 rw[List.length_map]at r
 refine C.c51.rr (by conv=>lhs;reduce) ?_
 simp(maxDischargeDepth:=9)only[auX,zA,hl_g s.fs,z0c (y8h C (H:=H) (m:=l)),z0c c,r.len]
 refine W.loopI (fun k t H2=>∃ (i:Nat) (lv:AVal) (fs:List FV),i+k=gs.length/\PT.get .h t=some (.ptr F 0)/\PT.get (.o (.o .h)) t=some (lv)/\PT.get (.i (.o (.i .h))) t=some (sv)/\PT.get (.o (.i (.i .h))) t=some (.int .i64 (.ofNat gs.length))/\PT.get (.i (.i (.i .h))) t=some (.int .i64 (.ofNat i))/\fs.map (fun f=>(f.1,f.2.2))=(gs.map fun f=>(f.nm,f.bs.take f.sy)).take i/\fs.length=i/\GO 2 HS.nx.toNat H2 lv i (fvs fs)/\(∀ f∈fs,Rd 1 H2 f.2.1 f.2.2.length (z0b f.2.2)/\(∀ p,blk f.2.1 p->¬ blk lv p)/\∀ u∈f.2.2,u<256)/\Keep HS.nx.toNat HS H2) ?_ gs.length _ _ ⟨0,.snil,[],by omega,rfl,rfl,rfl,rfl,rfl,rfl,rfl,GO.nil,fun f hf=>by(cases hf),Keep.refl _ _⟩
 rintro k t H2 ⟨i,lv,fs,hi,g0,g3,g12,g13,g14,hfs,hfl,hG,hD,hK⟩
 have kk:Keep H.nx.toNat H H2:=kS.trans (hK.mono kS.nx)
 have s2:=s.keep kk lr
 by_cases hk:k=0
 .obtain rfl:i=gs.length:=by omega
  simp(maxDischargeDepth:=9)only[auX,↓reduceIte,g3,g13,g14,show ¬ gs.length<gs.length by omega]
  refine⟨⟨fs,?_,by rw[hfl];exact hG.1.rd,fun f hf=>⟨(hD f hf).1,(hD f hf).2.2⟩⟩,kk⟩
  rw[hfs,List.take_of_length_le (by simp)]
 .have hi2:i<gs.length:=by omega
  have hf:=hgs _ (List.getElem_mem hi2)
  obtain⟨f1,f2',f3⟩:=s2.ff _ hf
  have f2:=f2'
  have hbf:=hb _ hf
  have gl2:=s2.gl
  rw[List.take_length]at gl2
  have hfind:=j5o (H:=H2) hf s.nn
  have hlk:=q1d (H:=H2) (z:=.pnil) gl2 hfind
  have r2:=r.keep hK lr
  obtain⟨bi,oi,i1,i2⟩:=Rd.at1 r2 (i:=i) (x:=.str gs[i].nm) (by simp[hi2])
  obtain⟨ws,s1,_,s3⟩:=y06 f2.1 hbf.1
  rw[z3b]at s1
  have hln:(gs[i].bs.take gs[i].sy).length=gs[i].sy:=by rw[List.length_take];omega
  have hyb:By H2 ws (gs[i].bs.take gs[i].sy):=⟨by rw[hln];exact s1,fun u hu=>f2.2 u (List.mem_of_mem_take hu)⟩
  obtain⟨w1,H1,b1,G1,K1⟩:=y92 C hyb (by omega)
  have f1':=(K1.get _ (s2.top _ (PSt.mem _ hf))).trans f1
  have hG1:GO 2 HS.nx.toNat H1 lv i (fvs fs):=⟨hG.1.keep K1 lr,hG.2⟩
  have hkn:=hK.nx
  have kn1:=K1.nx
  obtain⟨w2,H3,a1,G3,K3,fr,fb,nn⟩:=z2u (by':=40) (by omega) hG1 (by omega) (row:=[.str gs[i].nm,w1]) rfl (by rw[z0p z9h,z0p G1.1.1.rd.scal];rfl) (by omega)
  have hl2:=fun p hp=>hG.1.rd.blk_lt p hp
  have hpt:=s2.top _ (PSt.mem _ hf)
  have f1n:=(z0d (H:=H1) (x:=.cells [.str gs[i].nm,w1] false false)).get gs[i].p (by omega)
  have hst:=s.top _ (PSt.mem _ hf)
  have hsn:=kS.nx
  have f1'':PT.get gs[i].p H3.t=_:=(fr _ (by omega) (fun e=>by have:=hG.2 _ e;omega)).trans f1'
  have lvs:=And.intro hG.1.rd.scal hG.1.rd.same
  have s1s:=And.intro s1.scal s1.same
  have f2sc:=f2.sc
  have w1sc:=G1.by.sc
  simp(maxDischargeDepth:=9)only[auX,reduceCtorEq,Nat.reduceAdd,zA,aZ,Nat.reduceAnd,g0,g3,g12,g13,g14,hi2,i1,i2,hl_g s2.fs,hlk,hl_g f1,lvs,s3,z0j b1,w1sc,z16 a1,z0o (i:=i) (k:=1) (by omega)]
  refine⟨k-1,by omega,i+1,w2,fs++[(gs[i].nm,w1,gs[i].bs.take gs[i].sy)],by omega,rfl,rfl,?_,by simp[hfl],?_,?_,(hK.trans (K1.mono hkn)).trans K3⟩
  .rw[List.map_append,hfs,List.take_succ_eq_append_getElem (by simpa using hi2)]
   congr 1
   simp
  .have:fvs (fs++[(gs[i].nm,w1,gs[i].bs.take gs[i].sy)])=fvs fs++[.str gs[i].nm,w1]:=by simp[fvs]
   rw[this];exact G3
  .intro f hf
   rcases List.mem_append.1 hf with hf | hf
   .obtain⟨y1,y2,y3⟩:=hD f hf
    have y4:=fun p hp=>y1.blk_lt p hp
    refine⟨y1.other (fun p hp=>?_) (by omega),fun p hp hb=>?_,y3⟩
    .rw[fr p (by have:=y4 p hp;omega) (y2 p hp),K1.get p (y4 p hp)]
    .have:=fb p hb;have:=y4 p hp;omega
   .obtain rfl:f=(gs[i].nm,w1,gs[i].bs.take gs[i].sy):=by simpa using hf
    have y4:=fun p hp=>G1.1.1.rd.blk_lt p hp
    refine⟨?_,fun p hp hb=>?_,G1.2⟩
    .exact G1.1.1.rd.other (fun p hp=>fr p (y4 p hp) (fun hb=>by have:=G1.1.2 p hp;have:=hl2 p hb;omega)) nn
    .have:=fb p hb;have:=y4 p hp;omega
end
end Go.Am
end
section
namespace Go.Am
open Go
def be4(b:List Nat)(o:Nat) :Nat:=b.getD o 0*16777216+b.getD (o+1) 0*65536+b.getD (o+2) 0*256+b.getD (o+3) 0
def z7j(us:List Nat)(n v:Nat) :Option Nat :=
 match fdec us with
 | some (k,h)=>if k=1/\h.length=12/\be4 h 0=1/\be4 h 4=n then
   match fdec (us.drop (24+v/200*812))with
   | some (k2,p)=>if k2=2/\p.length=4*min 200 (n-v/200*200)then
     if be4 p (4*(v-v/200*200))<=be4 h 8 then some (be4 p (4*(v-v/200*200)))else none else none
   | none=>none
  else none
 | none=>none
def atF(us:List Nat)(kind n:Nat) :Option (List Nat) :=
 match fdec (us.take (n+12))with
 | some (k,p)=>if k=kind/\p.length=n then some p else none
 | none=>none
def y90(us:List Nat)(n v:Nat) :Option Nat :=
 match atF us 1 12 with
 | some h=>match atF (us.drop (24+v/200*812)) 2 (4*min 200 (n-v/200*200))with
  | some p=>if be4 h 0=1/\be4 h 4=n/\be4 p (4*(v%200))<=be4 h 8 then some (be4 p (4*(v%200)))else none
  | none=>none
 | none=>none
theorem q5n(us:List Nat)(kind n:Nat) :atF us kind n=match fdec us with
 | some (k,p)=>if k=kind/\p.length=n then some p else none
 | none=>none:=by
 unfold atF
 cases h:fdec (us.take (n+12))with
 | some r =>
  obtain⟨k,p⟩:=r
  rw[j73 h]
 | none =>
  cases h2:fdec us with
  | none=>rfl
  | some r =>
   obtain⟨k,p⟩:=r
   simp only
   split
   .rename_i c
    have:=y2u h2 (m:=n+12) (by omega)
    rw[h]at this
    cases this
   .rfl
theorem y0a(us:List Nat)(n v:Nat) :y90 us n v=z7j us n v:=by
 have hv:v-v/200*200=v%200:=by omega
 unfold y90 z7j
 rw[q5n,q5n,hv]
 cases h:fdec us with
 | none=>rfl
 | some r =>
  obtain⟨k,p⟩:=r
  simp only
  cases h2:fdec (us.drop (24+v/200*812))with
  | none =>
   by_cases c:k=1/\p.length=12
   .simp only[c,and_self,if_true]
    split<;>rfl
   .simp only[c,if_false]
    split
    .rename_i d;exact absurd ⟨d.1,d.2.1⟩ c
    .rfl
  | some r2 =>
   obtain⟨k2,q⟩:=r2
   by_cases c:k=1/\p.length=12
   .simp only[c,and_self,if_true,true_and]
    by_cases d:k2=2/\q.length=4*min 200 (n-v/200*200)
    .simp only[d,and_self,if_true]
     by_cases e1:be4 p 0=1/\be4 p 4=n
     .simp only[e1.1,e1.2,and_self,if_true,true_and]
     .rw[if_neg (fun f=>e1 ⟨f.1,f.2.1⟩),if_neg e1]
    .simp only[d,if_false]
     split<;>rfl
   .simp only[c,if_false]
    split
    .rename_i d;exact absurd ⟨d.1,d.2.1⟩ c
    .rfl
def z3d(b:List Nat) :List Nat:=(List.range (b.length/4)).map fun i=>be4 b (4*i)
end Go.Am
end
