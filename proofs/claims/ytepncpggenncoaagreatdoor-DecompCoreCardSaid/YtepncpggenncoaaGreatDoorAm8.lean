import Derived.Test.YtepncpggenncoaaGreatDoorAm7
import Derived.RangeFuncLeaves
import Derived.TacticsIn
set_option linter.unusedSimpArgs false
set_option linter.unusedVariables false
set_option maxHeartbeats 8000000
namespace Go.Am
open Go Go.RowKit
section
variable{P:Program}{T:Tys}{B:Nat}{φ:Emb}{H:AHeap}{w:World}{nt:Nat}{t:PT AVal}{a:Act}{E:Env}{rec:Rec}
theorem z29{f:FuncId}{fn:Func}{c:Code}{args:Array Value}(h1:P.funcs[f]? = some fn)(h2:(fn.name == "runtime.NumGoroutine")=false)(h3:fn.body=some c) :(callFunc f args).run P w=.ok (.enter f args) w:=by
 have h2':¬ fn.name = "runtime.NumGoroutine":=by simpa using h2
 simp[callFunc,h1,h2',h3]
theorem z71{fn:Func}{fi:AFun}(h:z46 T fn=some fi) :∃ c,fn.body=some c/\fi.body=comp T fn.ntmps false c/\fi.ntmps=fn.ntmps/\z2q T fn.results.toList=some fi.results/\fn.ntmps<2^31:=by
 unfold z46 at h
 split at h
 .rename_i c rs h1 h2 h3
  cases h
  exact⟨c,h1,rfl,rfl,h2,by simpa[Nat.blt_eq]using h3⟩
 .cases h
theorem j78(hrec:z1p P T B rec){fn:Func}{fi:AFun}(hc:z46 T fn=some fi){c:Code}(hb:fn.body=some c)(hH:HRel T B φ H w){args:List AVal}{vs:Array Value}(hl:LRel φ args vs.toList){e:AExit}{aa:AAct}{H':AHeap}(h:j0c rec fi args H=some (e,aa,H')) :
  c.wpIn Fence.wide 0 P (Post T B φ H w fn.ntmps e aa H') { tmps:=vs++Array.replicate (fn.ntmps-vs.size) undef,defers:=[] } w:=by
 obtain⟨c',h1,h2,h3,h4,h5⟩:=z71 hc
 rw[hb]at h1
 cases h1
 unfold j0c at h
 split at h
 .rename_i t ht
  rw[h3]at ht
  rw[h2]at h
  exact hrec c fn.ntmps none none ⟨t,[]⟩ H φ _ w hH ⟨j34 ht hl h5,by show([] :List Deferred)=[];rfl⟩ trivial h
 .cases h
theorem j5d(H:AHeap)(p:Pos)(o:AObj) :(H.upd p o).kill p=H.kill p:=by
 simp only[AHeap.upd,AHeap.kill,PT.set_set]
theorem ORel.dfr_run(hH:HRel T B φ H w){p:Pos}{x:Place}(hx:φ p=some x)(hg:PT.get p H.t=some (.dfr true)) :
  ∃ w',(Instr.takeDeferred x.c).run P w=.ok [] w'/\Sim T B φ H w φ (H.kill p) w':=by
 obtain⟨h1,h2⟩:=hH.obj p _ x hg hx
 have h1:w.heap[x.c]? = some (.deferred (some [])):=by simpa using h1
 have hin:=(hH.low p x hx).2
 refine⟨{ w with heap:=w.heap.setIfInBounds x.c (.deferred none) },by simp[Instr.takeDeferred,z2s h1,setObj,Sem.run,h1],?_⟩
 have hother:∀ c,c≠x.c->({ w with heap:=w.heap.setIfInBounds x.c (.deferred none) } :World).heap[c]? = w.heap[c]?:=fun c hc=>by
  show(w.heap.setIfInBounds x.c _)[c]? = _
  rw[Array.getElem?_setIfInBounds_ne (fun e=>hc e.symm)]
 have S:Sim T B φ H w φ (H.upd p (.dfr false)) { w with heap:=w.heap.setIfInBounds x.c (.deferred none) }:=by
  refine Sim.turn hH hx (by rw[hg];simp) (Below.of_one h2 rfl rfl rfl (by simp) hother) (by simp) hother ⟨?_,h2⟩
  show(w.heap.setIfInBounds x.c _)[x.c]? = _
  simp[hin]
 rw[<-j5d H p (.dfr false)]
 exact S.trans (Sim.kill S.rel hx)
def Ends(T:Tys)(B:Nat)(φ:Emb)(H:AHeap)(w:World)(v:AVal)(H':AHeap) :Ending->World->Prop:=fun e w'=>∃ u φ',e=.returned u/\VRel φ' v u/\Sim T B φ H w φ' H' w'
theorem z6g(hT:TOk T P)(hE:EnvOk P T B E)(hrec:z1p P T B rec){fn:Func}{ars:List (Pos×Option Nat)}{l:List AVal}{tmps:Array Value}(hc:z2q T fn.results.toList=some ars){φ0:Emb}{H0:AHeap}{w0:World} :
  ∀ {ads:List ADef} {ds:List Deferred} {φ:Emb} {H H':AHeap} {w:World},Sim T B φ0 H0 w0 φ H w->TRel φ nt t tmps->j8a φ ads ds->z55 E rec ads H=some H'->z0u t H' ars=some l →
   LeavesInM Fence.wide 0 P fn tmps (Ends T B φ0 H0 w0 (j3h l) H') ds .returning w
 | [],ds,φ,H,H',w,hS,ht,hd,h,hr=>by
  simp only[z55]at h
  cases h
  have:ds=[]:=hd
  subst this
  obtain⟨u,h1,h2⟩:=z7t (P:=P) hT hS.rel ht hc hr
  exact⟨u,h1,u,φ,rfl,h2,hS⟩
 | .mark p::ads,ds,φ,H,H',w,hS,ht,hd,h,hr=>by
  obtain⟨d,ds',rfl,⟨x,hx,hd1⟩,hd2⟩:=hd
  simp only[z55]at h
  split at h
  .rename_i hg
   obtain⟨w',h1,h2⟩:=ORel.dfr_run (P:=P) hS.rel hx hg
   exact⟨by simp,.inl ⟨x.c,w',hd1,h1,z6g hT hE hrec hc (hS.trans h2) ht hd2 h hr⟩⟩
  .cases h
 | .fn f args::ads,ds,φ,H,H',w,hS,ht,hd,h,hr=>by
  obtain⟨d,ds',rfl,⟨cap,hd1,hl⟩,hd2⟩:=hd
  simp only[z55]at h
  split at h
  .rename_i hf
   have hf:f<2147483648:=by simpa[Nat.blt_eq]using hf
   split at h
   .rename_i s hs
    split at h
    .rename_i H1 hs1
     obtain⟨i1,i2⟩:=hE.dsums f s hf hs φ H w args (d.args++cap) H1 hS.rel hl hs1
     refine⟨by simp,.inr ⟨fun h=>(by cases h),.func f,cap,f,d.args++cap,hd1,by rw[hd1];exact i1,fun _ _=>trivial,?_⟩⟩
     refine CallsDIn.mono i2 fun e u' w' ⟨⟨v,he⟩,hu,φ',hS'⟩=>?_
     subst he;subst hu
     exact z6g hT hE hrec hc (hS.trans hS') (ht.mono hS'.ext.le) (hd2.mono hS'.ext.le) h hr
    .cases h
   .split at h
    .rename_i fi hfi
     obtain⟨fn',g1,g2,g3⟩:=hE.fns f fi hf hfi
     obtain⟨c,k1,k2,k3,k4,k5⟩:=z71 g3
     have done:∀ {ex:AExit} {t':PT AVal} {H1:AHeap},(ex=.normal\/ex=.ret)->j0c rec fi args H=some (ex,⟨t',[]⟩,H1)->(∃ l',z0u t' H1 fi.results=some l')->z55 E rec ads H1=some H' →
       LeavesInM Fence.wide 0 P fn tmps (Ends T B φ0 H0 w0 (j3h l) H') (d::ds') .returning w:=by
      intro ex t' H1 hex he ⟨l',hl'⟩ hrest
      refine⟨by simp,.inr ⟨fun h=>(by cases h),.func f,cap,f,d.args++cap,hd1,by rw[hd1];exact z29 g1 g2 k1,fun _ _=>trivial,?_⟩⟩
      have hw:=j78 hrec g3 k1 hS.rel hl he
      have hcall:=callsDIn_of_wp (F:=Fence.wide) (n:=0) (u:=.returning) (R:=fun e w'=>(∃ v,e=.returned v)/\∃ φ',Sim T B φ H w φ' H1 w') g1 k1 trivial (wpIn_mono hw (fun e' a' w' hpost=>by
       obtain⟨he',φ',hS',hact⟩:=hpost
       obtain⟨u,r1,r2⟩:=z7t (P:=P) hT hS'.rel hact.t k4 hl'
       have hnil:a'.defers=[]:=hact.ds
       subst he'
       rcases hex with rfl | rfl
       .exact⟨hnil,u,r1,⟨u,rfl⟩,φ',hS'⟩
       .exact⟨hnil,u,r1,⟨u,rfl⟩,φ',hS'⟩))
      refine CallsDIn.mono hcall fun e u' w' ⟨hu,⟨v,he'⟩,φ',hS'⟩=>?_
      subst hu;subst he'
      exact z6g hT hE hrec hc (hS.trans hS') (ht.mono hS'.ext.le) (hd2.mono hS'.ext.le) hrest hr
     split at h
     .cases h
     .cases h
     .rename_i ex t' H1 hn1 hn2 he
      split at h
      .rename_i l' hl'
       refine done (ex:=ex) ?_ he ⟨l',hl'⟩ h
       cases ex with
       | normal=>exact .inl rfl
       | ret=>exact .inr rfl
       | exit id=>exact(hn1 _ rfl).elim
       | goto l=>exact(hn2 _ rfl).elim
      .cases h
     .cases h
    .cases h
  .cases h
end
section
variable{P:Program}{T:Tys}{B:Nat}{φ:Emb}{H:AHeap}{w:World}{nt:Nat}{t:PT AVal}{a:Act}{E:Env}{rec:Rec}
theorem j53(hT:TOk T P)(hE:EnvOk P T B E)(hrec:z1p P T B rec)(hH:HRel T B φ H w){f:FuncId}{args:List AVal}{vs:Array Value}(hl:LRel φ args vs.toList){v:AVal}{H':AHeap}(h:callF E rec f args H=some (v,H')) :
  z4r P T B φ H w f vs v H':=by
 unfold callF at h
 split at h
 .rename_i fi hf hfi
  have hf:f<2147483648:=by simpa[Nat.blt_eq]using hf
  obtain⟨fn,g1,g2,g3⟩:=hE.fns f fi hf hfi
  obtain⟨c,k1,k2,k3,k4,k5⟩:=z71 g3
  refine⟨z29 g1 g2 k1,?_⟩
  have done:∀ {ex:AExit} {aa:AAct} {H1 H2:AHeap} {l:List AVal},(ex=.normal\/ex=.ret)->j0c rec fi args H=some (ex,aa,H1)->z55 E rec aa.ds H1=some H2->z0u aa.t H2 fi.results=some l →
    CallsIn Fence.wide 0 P f vs w (Ends T B φ H w (j3h l) H2):=by
   intro ex aa H1 H2 l hex he hd hr
   have hw:=j78 hrec g3 k1 hH hl he
   refine callsIn_of_wp_marks g1 k1 trivial (wpIn_mono hw fun e' a' w' ⟨he',φ',hS,hact⟩=>?_)
   have:=z6g (P:=P) hT hE hrec (fn:=fn) k4 hS hact.t hact.ds hd hr
   subst he'
   rcases hex with rfl | rfl<;>exact this
  split at h
  .cases h
  .cases h
  .rename_i ex aa H1 hn1 hn2 he
   have hex:ex=.normal\/ex=.ret:=by
    cases ex with
    | normal=>exact .inl rfl
    | ret=>exact .inr rfl
    | exit id=>exact(hn1 _ rfl).elim
    | goto l=>exact(hn2 _ rfl).elim
   split at h
   .rename_i H2 hd
    split at h
    .rename_i v' hr
     cases h
     exact done hex he hd hr
    .rename_i l hne hr
     cases h
     have:=done hex he hd hr
     have hv:j3h l=.tup l:=by
      match l,hne with
      | [],_=>rfl
      | [v],hne=>exact(hne v rfl).elim
      | _::_::_,_=>rfl
     rw[hv]at this
     exact this
    .cases h
   .cases h
  .cases h
 .cases h
theorem y3b(hT:TOk T P)(hE:EnvOk P T B E)(hrec:z1p P T B rec)(hH:HRel T B φ H w){f:FuncId}{args:List AVal}{vs:Array Value}(hl:LRel φ args vs.toList){v:AVal}{H':AHeap}(h:z9p E rec f args H=some (v,H')) :
  z7q P T B φ H w f vs v H':=by
 unfold z9p at h
 split at h
 .rename_i s hf hs
  have hf:f<2147483648:=by simpa[Nat.blt_eq]using hf
  exact hE.sums f s hf hs φ H w args vs v H' hH hl h
 .exact .inl (j53 hT hE hrec hH hl h)
theorem Sim.loop(hH:HRel T B φ H w){l:Pos}{x:Place}(hx:φ l=some x){r:ALoop}(hg:PT.get l H.t=some (.loop r)){r':ALoop}{lp':Loop}(hrel:j5a T φ r' lp') :
  Sim T B φ H w φ (H.upd l (.loop r')) { w with heap:=w.heap.setIfInBounds x.c (.loop lp') }:=by
 obtain⟨lp,h1,h2,h3⟩:=hH.obj l _ x hg hx
 have hin:=(hH.low l x hx).2
 have hother:∀ c,c≠x.c->({ w with heap:=w.heap.setIfInBounds x.c (.loop lp') } :World).heap[c]? = w.heap[c]?:=fun c hc=>by
  show(w.heap.setIfInBounds x.c _)[c]? = _
  rw[Array.getElem?_setIfInBounds_ne (fun e=>hc e.symm)]
 refine Sim.turn hH hx (by rw[hg];simp) (Below.of_one h3 rfl rfl rfl (by simp) hother) (by simp) hother ⟨lp',?_,hrel,h3⟩
 show(w.heap.setIfInBounds x.c _)[x.c]? = _
 simp[hin]
theorem y09{φ:Emb} :∀ {ps:List Nat} {vs:List AVal} {us:List Value} {t t':PT AVal} {tmps:Array Value},j6z (ps.map Pos.ofNat) vs t=some t'->LRel φ vs us->TRel φ nt t tmps->(∀ p∈ps,p<nt) →
  us.length=ps.length/\TRel φ nt t' ((ps.zip us).foldl (fun tmps p=>tmps.setIfInBounds p.1 p.2) tmps)
 | [],[],us,t,t',tmps,h,hl,ht,_=>by
  simp[j6z]at h
  subst h
  have:us=[]:=hl
  subst this
  exact⟨rfl,ht⟩
 | [],v::vs,us,t,t',tmps,h,hl,ht,_=>by simp[j6z]at h
 | p::ps,[],us,t,t',tmps,h,hl,ht,_=>by simp[j6z]at h
 | p::ps,v::vs,us,t,t',tmps,h,hl,ht,hp=>by
  obtain⟨u,us',rfl,h1,h2⟩:=hl
  simp only[List.map_cons,j6z]at h
  have ht':TRel φ nt (PT.set (Pos.ofNat p) (some v) t) (tmps.setIfInBounds p u) :=
   TRel.put (a:=⟨tmps,[]⟩) ht (d:=some p) (fun x hx=>by cases hx;exact hp p (by simp)) h1
  obtain⟨g1,g2⟩:=y09 h h2 ht' (fun q hq=>hp q (List.mem_cons_of_mem _ hq))
  exact⟨by simp[g1],g2⟩
theorem z8l(hH:HRel T B φ H w){l:Pos}{x:Place}(hx:φ l=some x){r:ALoop}(hg:PT.get l H.t=some (.loop r)) :∃ lp,(Instr.getLoop x.c).run P w=.ok lp w/\w.heap[x.c]? = some (.loop lp)/\j5a T φ r lp:=by
 obtain⟨lp,h1,h2,_⟩:=hH.obj l _ x hg hx
 exact⟨lp,by simp[Instr.getLoop,z2s h1],h1,h2⟩
theorem z4l{c:Nat}{lp:Loop}(h:w.heap[c]? = some (.loop lp))(o:Obj) :(setObj c o).run P w=.ok () { w with heap:=w.heap.setIfInBounds c o }:=by
 simp[setObj,Sem.run,h]
theorem q0v(hrec:z1p P T B rec)(hH:HRel T B φ H w){l:Pos}{x:Place}(hx:φ l=some x){args:List AVal}{vs:Array Value}(hl:LRel φ args vs.toList){v:AVal}{H':AHeap}(h:j3g rec l args H=some (v,H')) :
  ∃ f tmps assign body,(Instr.yield x.c vs).run P w=.ok (.round x.c f tmps assign body) w/\RoundIn Fence.wide 0 P x.c f tmps assign body w (Ends T B φ H w v H'):=by
 unfold j3g at h
 split at h
 .rename_i r hg
  split at h
  .rename_i t' ht'
   obtain⟨lp,q1,q2,hlp⟩:=z8l (P:=P) hH hx hg
   obtain⟨s1,s2,s3,s4,s5,s6,s7,s8⟩:=hlp
   rw[s4]at ht'
   obtain⟨p1,p2⟩:=y09 ht' hl s3 s5
   have hsz:¬ (vs.size≠lp.params.size):=by simp at p1;omega
   refine⟨lp.fn,(lp.params.zip vs).foldl (fun tmps (t,a)=>tmps.setIfInBounds t a) lp.tmps,lp.assign,lp.body,?_,?_⟩
   .simp only[Instr.yield,Sem.run_bind,q1,Result.andThen_ok,hsz,if_false,Sem.run_pure]
   .have hfold:(lp.params.zip vs).foldl (fun tmps (t,a)=>tmps.setIfInBounds t a) lp.tmps=(lp.params.toList.zip vs.toList).foldl (fun tmps p=>tmps.setIfInBounds p.1 p.2) lp.tmps:=by
     rw[<-Array.foldl_toList,Array.toList_zip]
    rw[hfold]
    refine roundIn_of_wpIn trivial ?_
    split at h
    .rename_i a1 H1 hassign
     rw[s6]at hassign
     have w1:=hrec lp.assign lp.tmps.size (some l) (some x.c) ⟨t',[]⟩ H φ ⟨(lp.params.toList.zip vs.toList).foldl (fun tmps p=>tmps.setIfInBounds p.1 p.2) lp.tmps,[]⟩ w hH ⟨p2,by show([] :List Deferred)=[];rfl⟩ ⟨x,hx,rfl⟩ hassign
     refine wpIn_mono w1 fun e1 act1 wd1 ⟨he1,φ1,hS1,hact1⟩=>?_
     subst he1
     have hx1:=hS1.ext.le _ _ hx
     split at h
     .rename_i r1 hg1
      split at h
      .rename_i hst
       obtain⟨lp1,q1',q2',hlp1⟩:=z8l (P:=P) hS1.rel hx1 hg1
       obtain⟨u1,u2,u3,u4,u5,u6,u7,u8⟩:=hlp1
       have hS2:=Sim.loop hS1.rel hx1 hg1 (r':={ r1 with state:=.busy }) (lp':={ lp1 with state:=.busy }) ⟨rfl,u2,u3,u4,u5,u6,u7,u8⟩
       refine⟨{ wd1 with heap:=wd1.heap.setIfInBounds x.c (.loop { lp1 with state:=.busy }) },?_,?_⟩
       .simp only[Instr.beginRound,Sem.run_bind,q1',Result.andThen_ok,z4l q2',u1,hst,Sem.run_pure]
       .split at h
        .rename_i e t2 H2 hbody
         rw[s7]at hbody
         have w2:=hrec lp.body lp.tmps.size (some l) (some x.c) a1 _ φ1 act1 _ hS2.rel hact1 ⟨x,hx1,rfl⟩ hbody
         refine wpIn_mono w2 fun e2 act2 wd2 ⟨he2,φ2,hS3,hact2⟩=>?_
         have hx2:=hS3.ext.le _ _ hx1
         have hall:=hS1.trans (hS2.trans hS3)
         split at h
         .rename_i r2 hg2
          obtain⟨lp2,q1'',q2'',hlp2⟩:=z8l (P:=P) hS3.rel hx2 hg2
          obtain⟨z1,z2,z3,z4,z5,z6,z7,z8⟩:=hlp2
          subst he2
          split at h
          .cases h
           have hS4:=Sim.loop hS3.rel hx2 hg2 (r':={ r2 with state:=.ready,pending:=.none }) (lp':={ lp2 with state:=.ready,pending:=none }) ⟨rfl,rfl,z3,z4,z5,z6,z7,z8⟩
           exact⟨.bool true,_,by simp only[Instr.endRound,Sem.run_bind,q1'',Result.andThen_ok,z4l q2'',Sem.run_pure,Option.isNone_none,if_true],.bool true,φ2,rfl,rfl,hall.trans hS4⟩
          .cases h
           have hS4:=Sim.loop hS3.rel hx2 hg2 (r':={ r2 with state:=.done,pending:=.ret }) (lp':={ lp2 with state:=.done,pending:=some .ret }) ⟨rfl,rfl,z3,z4,z5,z6,z7,z8⟩
           exact⟨.bool false,_,by simp only[Instr.endRound,Sem.run_bind,q1'',Result.andThen_ok,z4l q2'',Sem.run_pure,Option.isNone_some,Bool.false_eq_true,if_false],.bool false,φ2,rfl,rfl,hall.trans hS4⟩
          .rename_i id _
           cases h
           have hS4:=Sim.loop hS3.rel hx2 hg2 (r':={ r2 with state:=.done,pending:=.exit id }) (lp':={ lp2 with state:=.done,pending:=some (.exit id) }) ⟨rfl,rfl,z3,z4,z5,z6,z7,z8⟩
           exact⟨.bool false,_,by simp only[Instr.endRound,Sem.run_bind,q1'',Result.andThen_ok,z4l q2'',Sem.run_pure,Option.isNone_some,Bool.false_eq_true,if_false],.bool false,φ2,rfl,rfl,hall.trans hS4⟩
          .cases h
         .cases h
        .cases h
      .cases h
     .cases h
    .cases h
  .cases h
 .cases h
end
section
variable{P:Program}{T:Tys}{B:Nat}{φ:Emb}{H:AHeap}{w:World}{nt:Nat}{t:PT AVal}{a:Act}{E:Env}{rec:Rec}
theorem z3x(ht:TRel φ nt t a.tmps){ops:Array Oper}{o:Oper}{g:Option (Pos×Bool)}(hg:j5i ops.toList o.guard=some g){b:Bool}(h:z0y t g=some b) :Region.wanted o (yielded ops a.tmps)=b:=by
 unfold j5i at hg
 unfold Region.wanted
 split at hg
 .rename_i hn
  cases hg
  simp only[z0y]at h
  cases h
  rw[hn]
 .rename_i j want hn
  rw[hn]
  split at hg
  .rename_i oj hj
   split at hg
   .rename_i d hd
    split at hg
    .rename_i hlt
     cases hg
     have hlt:d<2^31:=by simpa[Nat.blt_eq]using hlt
     have hv:=ht.2.2 d hlt
     have hj':ops[j]? = some oj:=by simpa using hj
     have hy:yielded ops a.tmps j=match a.tmps[d]? with | some (.bool b)=>some b | _=>none:=by
      simp[yielded,hj',hd]
      rfl
     simp only[z0y]at h
     simp only[hy]
     unfold tget at hv
     split at h
     .rename_i b' hp
      cases h
      rw[hp]at hv
      have hv:a.tmps.getD d Go.undef=.bool b':=hv
      have:a.tmps[d]? = some (.bool b'):=by
       rw[Array.getD_eq_getD_getElem?]at hv
       cases hc:a.tmps[d]? with
       | none=>rw[hc]at hv;cases hv
       | some v=>rw[hc]at hv;simp at hv;rw[hv]
      rw[this]
      cases b'<;>cases want<;>rfl
     .rename_i hp
      cases h
      rw[hp]at hv
      obtain⟨vs,hv,_⟩:=hv
      rw[Array.getD_eq_getD_getElem?]at hv
      cases hc:a.tmps[d]? with
      | none=>rfl
      | some v=>rw[hc]at hv;simp at hv;rw[hv];rfl
     .rename_i hp
      cases h
      rw[hp]at hv
      obtain⟨vs,hv,_⟩:=hv
      rw[Array.getD_eq_getD_getElem?]at hv
      cases hc:a.tmps[d]? with
      | none=>rfl
      | some v=>rw[hc]at hv;simp at hv;rw[hv];rfl
     .cases h
    .cases hg
   .cases hg
  .cases hg
theorem z7q.upon{f:FuncId}{args:Array Value}{v:AVal}{H':AHeap}(h:z7q P T B φ H w f args v H'){r:Option Nat}{o:Oper}{next:Act->World->Prop}{Q:Exit->Act->World->Prop}
  (hn:∀ u w' φ',VRel φ' v u->Sim T B φ H w φ' H' w'->next (a.put o.dst u) w') :o.uponIn (FR r) 0 P a next Q ((callFunc f args).run P w):=by
 rcases h with⟨h1,h2⟩ | ⟨u,w',φ',h1,h2,h3⟩
 .rw[h1]
  refine⟨j2q r,z9o (CallsIn.mono h2 fun e w' ⟨u,φ',he,hv,hS⟩=>?_)⟩
  subst he
  exact hn u w' φ' hv hS
 .rw[h1]
  exact hn u w' φ' h2 h3
theorem Does.upon{m:Sem Next}{v:AVal}{H':AHeap}(h:Does P T B φ H w m v H'){r:Option Nat}{o:Oper}{next:Act->World->Prop}{Q:Exit->Act->World->Prop}
  (hn:∀ u w' φ',VRel φ' v u->Sim T B φ H w φ' H' w'->next (a.put o.dst u) w') :o.uponIn (FR r) 0 P a next Q (m.run P w):=by
 obtain⟨nx,u,w',φ',h1,h2,h3,h4⟩:=h
 rw[h1]
 rcases h2 with rfl | ⟨rfl,rfl⟩
 .exact hn u w' φ' h3 h4
 .exact hn _ w' φ' h3 h4
theorem y8q{op:Op}{f:FuncId}{al:List AOpnd}(hc:z2r T op=some (.callF f al)) :∃ c:Call,op=.call c/\c.callee=.value (.func f)/\z7i T c.args.toList=some al:=by
 unfold z2r at hc
 split at hc
 all_goals first
  | (repeat' split at hc)<;>(cases hc;done)
  | skip
 rename_i c
 refine⟨c,rfl,?_⟩
 unfold z4b at hc
 split at hc
 .rename_i g hg
  split at hc
  .cases hc;exact⟨hg,‹_›⟩
  .cases hc
 .split at hc<;>cases hc
 .cases hc
 .exfalso
  split at hc
  all_goals (repeat' split at hc)<;>(cases hc;done)
theorem y8p{op:Op}{g:AOpnd}{al:List AOpnd}(hc:z2r T op=some (.callV g al)) :∃ (c:Call) (x:Operand),op=.call c/\c.callee=.value x/\opnd T x=some g/\z7i T c.args.toList=some al:=by
 unfold z2r at hc
 split at hc
 all_goals first
  | (repeat' split at hc)<;>(cases hc;done)
  | skip
 rename_i c
 unfold z4b at hc
 split at hc
 .split at hc<;>cases hc
 .rename_i x hne hx
  split at hc
  .cases hc;exact⟨c,x,rfl,hx,‹_›,‹_›⟩
  .cases hc
 .cases hc
 .exfalso
  split at hc
  all_goals (repeat' split at hc)<;>(cases hc;done)
theorem y8o{op:Op}{g:AOpnd}{al:List AOpnd}(hc:z2r T op=some (.defer g al)) :∃ (c:Call) (x:Operand),op=.defer c/\c.callee=.value x/\opnd T x=some g/\z7i T c.args.toList=some al:=by
 unfold z2r at hc
 split at hc
 all_goals first
  | (repeat' split at hc)<;>(cases hc;done)
  | skip
 .exfalso
  unfold z4b at hc
  (repeat' split at hc)<;>(cases hc;done)
 .rename_i c
  split at hc
  .rename_i x hx
   split at hc
   .cases hc;exact⟨c,x,rfl,hx,‹_›,‹_›⟩
   .cases hc
  .cases hc
theorem j90(hT:TOk2 T P)(hE:EnvOk P T B E)(hrec:z1p P T B rec)(hH:HRel T B φ H w)(ht:TRel φ nt t a.tmps){o:Oper}{ao:AOp}(hc:z2r T o.op=some ao){v:AVal}{H':AHeap}(h:z1o E rec t H ao=some (v,H'))
  {r:Option Nat} {next:Act->World->Prop} {Q:Exit->Act->World->Prop} (hn:∀ u w' φ',VRel φ' v u->Sim T B φ H w φ' H' w'->next (a.put o.dst u) w') :o.wpIn (FR r) 0 P a w next Q:=by
 have hnd:∀ c,o.op≠.defer c:=by
  intro c hd
  rw[hd]at hc
  simp only[z2r]at hc
  split at hc
  .split at hc
   .cases hc;simp[z1o,z01,quiet]at h
   .cases hc
  .cases hc
 refine⟨fun f _=>j22 r f,?_⟩
 rw[Oper.semAt_eq _ _ _ hnd]
 have loud:z01 t H ao=some (v,H')->o.uponIn (FR r) 0 P a next Q ((execOp a.eval o).run P w):=fun h=>(y0j hT hH ht hc h).upon hn
 cases ao with
 | callF f al =>
  simp only[z1o]at h
  obtain⟨c,hoc,hcal,hal⟩:=y8q hc
  have hargs:=z4x hH ht hal
  have hrun:(execOp a.eval o).run P w=(callFunc f ((#[]++c.args.map a.eval)++#[])).run P w:=by
   simp only[execOp,hoc,resolve,hcal,Act.eval,Deferred.ofValue,Sem.run_bind,Sem.run_pure,Result.andThen_ok,invoke]
  rw[hrun]
  exact(y3b hT.toTOk hE hrec hH (by simpa using hargs) h).upon hn
 | callV g al =>
  simp only[z1o]at h
  obtain⟨c,x,hoc,hcal,hx,hal⟩:=y8p hc
  have hargs:=z4x hH ht hal
  have hxv:=z0m hH ht hx
  unfold z47 at h
  split at h
  .rename_i f first caps hf
   rw[hf]at hxv
   obtain⟨a',c',hv,h1,h2⟩:=hxv
   have hrun:(execOp a.eval o).run P w=(callFunc f ((a'++c.args.map a.eval)++c')).run P w:=by
    simp only[execOp,hoc,resolve,hcal,hv,Deferred.ofValue,Sem.run_bind,Sem.run_pure,Result.andThen_ok,invoke]
   rw[hrun]
   refine(y3b hT.toTOk hE hrec hH (args:=first++(evs t al++caps)) ?_ h).upon hn
   simp only[Array.toList_append,List.append_assoc,Array.toList_map]
   exact h1.append (hargs.append h2)
  .rename_i l hl
   rw[hl]at hxv
   obtain⟨y,hy,hv⟩:=hxv
   obtain⟨f,tmps,assign,body,h1,h2⟩:=q0v (P:=P) hrec hH hy (vs:=#[]++c.args.map a.eval) (by simpa using hargs) h
   have hrun:(execOp a.eval o).run P w=(Instr.yield y.c (#[]++c.args.map a.eval)).run P w:=by
    simp only[execOp,hoc,resolve,hcal,hv,Deferred.ofValue,Sem.run_bind,Sem.run_pure,Result.andThen_ok,invoke]
   rw[hrun,h1]
   refine⟨j2q r,y3z (RoundIn.mono h2 fun e w' ⟨u,φ',he,hv,hS⟩=>?_)⟩
   subst he
   exact hn u w' φ' hv hS
  .cases h
 | _=>exact loud h
end
section
variable{P:Program}{T:Tys}{B:Nat}{φ:Emb}{H:AHeap}{w:World}{nt:Nat}{t:PT AVal}{a:Act}{E:Env}{rec:Rec}
theorem q2s{d:Option Tmp}{ad:Option Pos}(h:j79 nt d=some ad) :ad=d.map Pos.ofNat/\∀ x,d=some x->x<nt:=by
 unfold j79 at h
 split at h
 .cases h;exact⟨rfl,by simp⟩
 .split at h
  .rename_i hlt
   cases h
   exact⟨rfl,fun x hx=>by cases hx;simpa[Nat.blt_eq]using hlt⟩
  .cases h
theorem z40{ops:List Oper}{o:Oper}{ao:AOper}(h:z8z T nt ops o=some ao) :j5i ops o.guard=some ao.guard/\j79 nt o.dst=some ao.dst/\(z2r T o.op=some ao.op\/ao.op=.bad):=by
 unfold z8z at h
 split at h
 .rename_i g d hg hd
  split at h
  .cases h;exact⟨hg,hd,.inl ‹_›⟩
  .cases h;exact⟨hg,hd,.inr rfl⟩
 .cases h
theorem ActRel.put{aa:AAct}(h:ActRel φ nt aa a){o:Oper}{d:Option Pos}(hd:j79 nt o.dst=some d){v:AVal}{u:Value}(hv:VRel φ v u) :ActRel φ nt ⟨tput aa.t d v,aa.ds⟩ (a.put o.dst u):=by
 obtain⟨e,hlt⟩:=q2s hd
 subst e
 refine⟨TRel.put h.t hlt hv,?_⟩
 have:(a.put o.dst u).defers=a.defers:=by cases o.dst<;>rfl
 rw[this]
 exact h.ds
theorem q4i(hT:TOk2 T P)(hE:EnvOk P T B E)(hrec:z1p P T B rec){ops:Array Oper}{r:Option Nat}{φ0:Emb}{H0:AHeap}{w0:World}{e:AExit}{aa':AAct}{H':AHeap} :
  ∀ {l:List Oper} {al:List AOper},z0n T nt ops.toList l=some al->(r.isSome=true->z6l al=true)->∀ {φ:Emb} {H:AHeap} {w:World} {t:PT AVal} {ds:List ADef} {a:Act},
   Sim T B φ0 H0 w0 φ H w->ActRel φ nt ⟨t,ds⟩ a->opsA E rec ds al t H=some (e,aa',H')->wpListIn (FR r) 0 P ops (Post T B φ0 H0 w0 nt e aa' H') l a w
 | [],al,hc,hnd,φ,H,w,t,ds,a,hS,hact,h=>by
  simp[z0n]at hc
  subst hc
  simp only[opsA]at h
  cases h
  exact⟨rfl,φ,hS,hact⟩
 | o::l,al,hc,hnd,φ,H,w,t,ds,a,hS,hact,h=>by
  simp only[z0n]at hc
  split at hc
  .rename_i ao m ho hm
   cases hc
   obtain⟨hg,hd,hop⟩:=z40 ho
   have hnd':r.isSome=true->z6l m=true:=fun hr=>by
    have:=hnd hr
    simp only[z6l,Bool.and_eq_true]at this
    exact this.2
   have IH:∀ {φ:Emb} {H:AHeap} {w:World} {t:PT AVal} {ds:List ADef} {a:Act},
     Sim T B φ0 H0 w0 φ H w->ActRel φ nt ⟨t,ds⟩ a->opsA E rec ds m t H=some (e,aa',H')->wpListIn (FR r) 0 P ops (Post T B φ0 H0 w0 nt e aa' H') l a w:=q4i hT hE hrec hm hnd'
   simp only[opsA]at h
   simp only[wpListIn]
   split at h
   .rename_i hwant
    rw[z3x hact.t hg hwant,if_pos rfl]
    split at h
    ·
     rename_i f args hao
     have hr:r=none:=by
      cases r with
      | none=>rfl
      | some l =>
       have:=hnd rfl
       simp[z6l,hao,j9s]at this
     subst hr
     split at h
     .rename_i g first caps hf
      rw[hao]at hop
      rcases hop with hop | hop
      .obtain⟨c,x,hoc,hcal,hx,hal⟩:=y8o hop
       have hxv:=z0m hS.rel hact.t hx
       have hargs:=z4x hS.rel hact.t hal
       rw[hf]at hxv
       obtain⟨a',c',hv,h1,h2⟩:=hxv
       refine⟨fun f _=>trivial,?_⟩
       have hrun:(o.semAt (FR none).round a.eval).run P w=.ok (.defer { target:=.fn (.func g) c',args:=a'++c.args.map a.eval }) w:=by
        rw[y3k,Oper.semAt_none]
        simp only[execOp,hoc,resolve,hcal,hv,Deferred.ofValue,Sem.run_bind,Sem.run_pure,Result.andThen_ok]
       rw[hrun]
       have hact2:ActRel φ nt ⟨t,.fn g (first++(evs t args++caps))::ds⟩ { a with defers:={ target:=.fn (.func g) c',args:=a'++c.args.map a.eval } :: a.defers }:=by
        refine⟨hact.t,_,_,rfl,⟨c',rfl,?_⟩,hact.ds⟩
        simp only[Array.toList_append,List.append_assoc,Array.toList_map]
        exact h1.append (hargs.append h2)
       exact IH hS (hact2.put hd VRel.undef) h
      .cases hop
     .cases h
    .rename_i hndef
     split at h
     .rename_i v H1 hex
      rw[z3l]at h
      rcases hop with hop | hop
      .refine j90 hT hE hrec hS.rel hact.t hop hex fun u w' φ' hv hS'=>?_
       exact IH (hS.trans hS') ((hact.mono hS'.ext.le).put hd hv) h
      .rw[hop]at hex;simp[z1o,z01,quiet]at hex
     .cases h
   .rename_i hwant
    rw[z3x hact.t hg hwant,if_neg (by simp)]
    exact⟨fun f _=>j22 r f,IH hS (hact.put hd VRel.undef) h⟩
   .cases h
  .cases hc
theorem z8d(hT:TOk2 T P)(hE:EnvOk P T B E)(hrec:z1p P T B rec){ops:Array Oper}{id:Nat}{r:Option Nat}{al:List AOper}(hc:z0n T nt ops.toList ops.toList=some al)(hnd:r.isSome=true->z6l al=true)
  (hH:HRel T B φ H w) {aa:AAct} (hact:ActRel φ nt aa a) {e:AExit} {aa':AAct} {H':AHeap} (h:opsA E rec aa.ds al aa.t H=some (e,aa',H')) :
  (Code.region id ops false).wpIn (FR r) 0 P (Post T B φ H w nt e aa' H') a w:=by
 refine wpIn_region ?_
 have hlist:=wpOpsIn_eq_wpListIn (F:=FR r) (n:=0) (P:=P) (ops:=ops) (Q:=Post T B φ H w nt e aa' H') ops.toList 0 (fun j=>by simp)
 rw[List.range_eq_range',show ops.size=ops.toList.length by simp,hlist]
 exact q4i hT hE hrec hc hnd (Sim.refl hH) hact h
end
section
variable{F:Fence}{n:Nat}{P:Program}
def z4k(F:Fence)(n:Nat)(P:Program)(body:Code)(Q:Exit->Act->World->Prop) :Nat->Code->Act->World->Prop
 | 0,_,_,_=>False
 | m+1,c,a,w=>c.wpIn F n P (fun e a' w'=>match e with
   | .goto l=>match findLabel body l with
    | some rest=>z4k F n P body Q m rest a' w'
    | none=>Q (.goto l) a' w'
   | e=>Q e a' w') a w
theorem z7m(id:Nat)(c:Code)(k:List Item) :exitTo id (.inScope c::k)=exitTo id k:=by simp[exitTo]
theorem z83{body:Code}{Q:Exit->Act->World->Prop}{a:Act}{w:World}(m:Nat)(h:z4k F n P body Q m body a w) :(Code.scope body).wpIn F n P Q a w:=by
 intro b k cs hro hb hr
 have s1:∀ {a:Act} {w:World},step P (lone (b.atR a (.code (.scope body)::k)) cs w)=.next (lone (b.atR a (.code body::.inScope body::k)) cs w):=by
  intro a w
  exact step_lone_go (by simp[stepG,stepG.exec,Frame.atR])
 have s2:∀ {a:Act} {w:World},step P (lone (b.atR a (.inScope body::k)) cs w)=.next (lone (b.atR a k) cs w):=by
  intro a w
  exact step_lone_go (by simp[stepG,stepG.exec,Frame.atR])
 have key:∀ m c a w,z4k F n P body Q m c a w →
   ∃ e a' w',Q e a' w'/\ArrivesIn (Machine.fenced P F) P (lone (b.atR a (.code c::.inScope body::k)) cs w) b k cs e a' w':=by
  intro m
  induction m with
  | zero=>intro c a w h;exact h.elim
  | succ m ih =>
   intro c a w h
   obtain⟨e,a₁,w₁,hq,harr⟩:=h b (.inScope body::k) cs hro hb hr
   cases e with
   | normal=>exact⟨.normal,a₁,w₁,hq,StepsIn.trans harr (.one (fenced_calm hb hr rfl) s2)⟩
   | exit id =>
    exact⟨.exit id,a₁,w₁,hq,fun k' hk=>harr.1 k' (by rw[z7m];exact hk),fun hr' hk=>harr.2 hr' (by rw[z7m];exact hk)⟩
   | goto l =>
    simp only at hq
    cases hf:findLabel body l with
    | some rest =>
     rw[hf]at hq
     obtain⟨e₂,a₂,w₂,hq₂,harr₂⟩:=ih rest a₁ w₁ hq
     exact⟨e₂,a₂,w₂,hq₂,.of_steps (harr.1 _ (by simp[gotoIn,hf])) harr₂⟩
    | none =>
     rw[hf]at hq
     have hx:gotoIn l (.inScope body::k)=gotoIn l k:=by simp[gotoIn,hf]
     exact⟨.goto l,a₁,w₁,hq,fun k' hk=>harr.1 k' (by rw[hx];exact hk),fun hr' hk=>harr.2 hr' (by rw[hx];exact hk)⟩
   | ret=>exact⟨.ret,a₁,w₁,hq,harr⟩
   | panic ch=>exact⟨.panic ch,a₁,w₁,hq,harr⟩
   | outgrown=>exact⟨.outgrown,a₁,w₁,hq,harr⟩
 obtain⟨e,a',w',hq,harr⟩:=key m body a w h
 exact⟨e,a',w',hq,.of_steps (.one (fenced_calm hb hr rfl) s1) harr⟩
end
theorem j2d(T:Tys)(nt:Nat)(r:Bool) :∀ (c:Code) (l:Nat),(comp T nt r c).find l=(findLabel c l).map (comp T nt r)
 | .seq a b,l=>by
  simp only[comp,ACode.find,findLabel,j2d T nt r a l,j2d T nt r b l]
  cases findLabel a l<;>simp[comp]
 | .label l',l=>by
  simp only[comp,ACode.find,findLabel]
  by_cases h:l'=l
  .subst h;simp[comp]
  .have h1:Nat.beq l' l=false:=by
    cases hb:Nat.beq l' l with
    | false=>rfl
    | true=>exact absurd (Nat.eq_of_beq_eq_true hb) h
   have h2:(l'==l)=false:=by simpa using h
   simp[h1,h2]
 | .skip,_=>rfl
 | .region id ops d,l=>by
  simp only[comp,findLabel]
  repeat' split
  all_goals rfl
 | .cond c a b,l=>by
  simp only[comp,findLabel]
  split<;>rfl
 | .block _ _,_=>rfl
 | .loop _,_=>rfl
 | .rangeFunc f ps a b,l=>by
  simp only[comp,findLabel]
  split<;>rfl
 | .exit _,_=>rfl
 | .ret,_=>rfl
 | .scope _,_=>rfl
 | .goto _,_=>rfl
 | .refuse _,_=>rfl
section
variable{P:Program}{T:Tys}{B:Nat}{φ:Emb}{H:AHeap}{w:World}{nt:Nat}{t:PT AVal}{a:Act}{E:Env}{rec:Rec}
def j8t(P:Program)(T:Tys)(B:Nat)(E:Env)(rec:Rec) :Prop :=
 ∀ (ops:Array Oper) (id nt:Nat) (r:Option Nat) (S:List ADraw) (φ:Emb) (H:AHeap) (w:World) (aa:AAct) (a:Act) (e:AExit) (aa':AAct) (H':AHeap),
  j0w T nt ops.toList=some S->HRel T B φ H w->ActRel φ nt aa a->z3t E rec aa.ds S aa.t H []=some (e,aa',H')->(Code.region id ops true).wpIn (FR r) 0 P (Post T B φ H w nt e aa' H') a w
theorem Post.trans{φ0:Emb}{H0:AHeap}{w0:World}(hS:Sim T B φ0 H0 w0 φ H w){e:AExit}{aa':AAct}{H':AHeap}{e':Exit}{a':Act}{w':World}(h:Post T B φ H w nt e aa' H' e' a' w') :Post T B φ0 H0 w0 nt e aa' H' e' a' w':=by
 obtain⟨h1,φ',h2,h3⟩:=h
 exact⟨h1,φ',hS.trans h2,h3⟩
theorem q0x(hT:TOk2 T P)(hE:EnvOk P T B E)(hrec:z1p P T B rec){g:Operand}{ps:Array Tmp}{assign body:Code}{x:AOpnd}(hx:opnd T g=some x)(hps:(ps.toList.all (Nat.blt · nt))=true)
  {r:Option Nat} (hH:HRel T B φ H w) {aa:AAct} (hact:ActRel φ nt aa a)
  {dfr:Pos} {ds:List ADef} {H1:AHeap} {v:AVal} {H3:AHeap} {rr:ALoop} {gf:FuncId} {first caps:List AVal} (hgf:x.ev aa.t=.func gf first caps)
  (hcall:callF E rec gf (first++(.yld H1.nx::caps)) (H1.new (.loop ⟨.ready,.none,aa.t,ps.toList.map Pos.ofNat,comp T nt true assign,comp T nt true body,dfr⟩)).2=some (v,H3))
  (hg3:PT.get H1.nx H3.t=some (.loop rr)) (hst:rr.state≠.busy)
  (henter:∃ (c:Nat) (mark:List Deferred) (φ1:Emb) (w1:World) (y:Place),((r=none/\c=w.heap.size/\mark=[{ target:=.collected c,args:=#[] }]/\w1=w.alloc (.deferred (some [])))\/(∃ l lp,r=some l/\(Instr.getLoop l).run P w=.ok lp w/\c=lp.defers/\mark=[]/\w1=w))/\Sim T B φ H w φ1 H1 w1/\φ1 dfr=some y/\c=y.c/\j8a φ1 ds (mark++a.defers)) :
  (Code.rangeFunc g ps assign body).wpIn (FR r) 0 P (Post T B φ H w nt (match rr.pending with | .none=>.normal | .ret=>.ret | .exit id=>.exit id) ⟨aa.t,ds⟩ (H3.kill H1.nx)) a w:=by
 refine wpIn_rangeFunc fun fn _=>?_
 obtain⟨c,mark,φ1,w1,y,he,hS1,hy,hcy,hds⟩:=henter
 have hnt:a.tmps.size=nt:=hact.t.1
 let lp:Loop:={ state:=.ready,pending:=none,fn:=fn,tmps:=a.tmps,params:=ps,assign:=assign,body:=body,defers:=c }
 have hlp:j5a T φ1 ⟨.ready,.none,aa.t,ps.toList.map Pos.ofNat,comp T nt true assign,comp T nt true body,dfr⟩ lp:=by
  refine⟨rfl,rfl,?_,rfl,?_,?_,?_,y,hy,hcy⟩
  .show TRel φ1 a.tmps.size aa.t a.tmps
   rw[hnt];exact hact.t.mono hS1.ext.le
  .intro z hz
   have:=List.all_eq_true.1 hps z hz
   show z<a.tmps.size
   rw[hnt];simpa[Nat.blt_eq]using this
  .show _=comp T a.tmps.size true assign
   rw[hnt]
  .show _=comp T a.tmps.size true body
   rw[hnt]
 have hS2:=Sim.new hS1.rel (.loop ⟨.ready,.none,aa.t,ps.toList.map Pos.ofNat,comp T nt true assign,comp T nt true body,dfr⟩) (.loop lp) 0 ⟨lp,by show(w1.heap.push _)[w1.heap.size]? = _;simp,hlp,hS1.rel.base⟩
 have hS12:=hS1.trans hS2
 have hxv:=z0m hS12.rel (hact.t.mono hS12.ext.le) hx
 rw[hgf]at hxv
 obtain⟨a',c',hv,h1,h2⟩:=hxv
 have hyl:(φ1.put H1.nx ⟨w1.heap.size,0,0⟩) H1.nx=some ⟨w1.heap.size,0,0⟩:=Emb.put_same _ _ _
 have hret:=j53 hT.toTOk hE hrec hS12.rel (args:=first++(.yld H1.nx::caps)) (vs:=(a'++#[.func (.yield w1.heap.size) #[] #[]])++c') (by
  simp only[Array.toList_append,List.append_assoc]
  exact h1.append ⟨_,_,rfl,⟨_,hyl,rfl⟩,h2⟩) hcall
 refine⟨w1.heap.size,mark,w1.alloc (.loop lp),{ target:=.fn (.func gf) c',args:=a'++#[.func (.yield w1.heap.size) #[] #[]] },w1.alloc (.loop lp),gf,(a'++#[.func (.yield w1.heap.size) #[] #[]])++c',w1.alloc (.loop lp),?_,?_,fun f' _=>j22 r f',by exact hret.1,j2q r,?_⟩
 .rw[y3k]
  rcases he with⟨rfl,rfl,rfl,rfl⟩ | ⟨l,lp0,rfl,hl,rfl,rfl,rfl⟩
  .simp only[Instr.enterLoop,Sem.run_bind,run_newObj_alloc,Sem.run_pure,Result.andThen_ok]
   rfl
  .simp only[Instr.enterLoop,Sem.run_bind,hl,run_newObj_alloc,Sem.run_pure,Result.andThen_ok]
   rfl
 .simp only[resolve,hv,Deferred.ofValue,Sem.run_pure]
  simp[Act.eval]
 .refine z9o (CallsIn.mono hret.2 fun e w' ⟨u,φ',hu,hvu,hS3⟩=>?_)
  subst hu
  have hl3:=hS3.ext.le _ _ hyl
  obtain⟨lp3,q1,q2,z1,z2,z3,z4,z5,z6,z7,z8⟩:=z8l (P:=P) hS3.rel hl3 hg3
  have hS4:=Sim.loop hS3.rel hl3 hg3 (r':={ rr with state:=.exhausted }) (lp':={ lp3 with state:=.exhausted }) ⟨rfl,z2,z3,z4,z5,z6,z7,z8⟩
  have hS5:=hS4.trans (Sim.kill hS4.rel hl3)
  rw[j5d]at hS5
  have hall:=hS12.trans (hS3.trans hS5)
  have hle:=(hS2.trans (hS3.trans hS5)).ext.le
  have hfin:ActRel φ' nt ⟨aa.t,ds⟩ { a with defers:=mark++a.defers }:=⟨hact.t.mono hall.ext.le,hds.mono hle⟩
  have hbusy:(lp3.state==LoopState.busy)=false:=by
   rw[z1]
   cases hr:rr.state<;>first | rfl | exact absurd hr hst
  refine⟨lp3.pending,{ w' with heap:=w'.heap.setIfInBounds w1.heap.size (.loop { lp3 with state:=.exhausted }) },by simp only[Instr.endLoop,Sem.run_bind,q1,Result.andThen_ok,hbusy,Bool.false_eq_true,if_false,z4l q2,Sem.run_pure],?_⟩
  have hpost:∀ ex,Post T B φ H w nt ex ⟨aa.t,ds⟩ (H3.kill H1.nx) (z6y ex) { a with defers:=mark++a.defers } { w' with heap:=w'.heap.setIfInBounds w1.heap.size (.loop { lp3 with state:=.exhausted }) } :=
   fun ex=>⟨rfl,φ',hall,hfin⟩
  generalize ({ w' with heap:=w'.heap.setIfInBounds w1.heap.size (.loop { lp3 with state:=.exhausted }) } :World)=W at hpost ⊢
  generalize H3.kill H1.nx=HH at hpost ⊢
  rw[z2]
  cases hp:rr.pending with
  | none=>exact hpost .normal
  | ret=>exact wpIn_ret (hpost .ret)
  | exit id=>exact wpIn_exit (hpost (.exit id))
end
section
variable{P:Program}{T:Tys}{B:Nat}{φ:Emb}{H:AHeap}{w:World}{nt:Nat}{t:PT AVal}{a:Act}{E:Env}{rec:Rec}
def j8r(P:Program)(T:Tys)(B:Nat)(E:Env)(n:Nat) :Prop:=∀ (b:Code) (nt:Nat) (ro:Option Pos) (ro':Option Nat) (φ0:Emb) (H0:AHeap) (w0:World) (aa:AAct) (H:AHeap) (φ:Emb) (a:Act) (w:World),
 Sim T B φ0 H0 w0 φ H w->ActRel φ nt aa a->y30 φ ro ro'->∀ {e aa' H'},ev E n (.loop (comp T nt ro'.isSome b)) ro aa H=some (e,aa',H')->Code.roundsIn (FR ro') 0 P b (Post T B φ0 H0 w0 nt e aa' H') n a w
theorem y1a(hrec:z1p P T B rec){b:Code}{ro:Option Pos}{ro':Option Nat}{φ0:Emb}{H0:AHeap}{w0:World}{e:AExit}{aa':AAct}{H':AHeap} :
  ∀ {m:Nat} {c:Code} {φ:Emb} {H:AHeap} {w:World} {aa:AAct} {a:Act},Sim T B φ0 H0 w0 φ H w->ActRel φ nt aa a->y30 φ ro ro' →
   j3d rec (comp T nt ro'.isSome b) m (comp T nt ro'.isSome c) ro aa H=some (e,aa',H')->z4k (FR ro') 0 P b (Post T B φ0 H0 w0 nt e aa' H') m c a w
 | 0,c,φ,H,w,aa,a,hS,hact,hro,h=>by simp[j3d]at h
 | m+1,c,φ,H,w,aa,a,hS,hact,hro,h=>by
  simp only[j3d]at h
  simp only[z4k]
  split at h
  .rename_i l a1 H1 hr
   refine wpIn_mono (hrec c nt ro ro' aa H φ a w hS.rel hact hro hr) fun e' a' w' ⟨he,φ',hS',hact'⟩=>?_
   subst he
   simp only[z6y]
   rw[j2d]at h
   cases hf:findLabel b l with
   | none =>
    rw[hf]at h
    cases h
    exact⟨rfl,φ',hS.trans hS',hact'⟩
   | some rest =>
    rw[hf]at h
    exact y1a hrec (hS.trans hS') hact' (hro.mono hS'.ext.le) h
  .rename_i hne
   refine wpIn_mono (hrec c nt ro ro' aa H φ a w hS.rel hact hro h) fun e' a' w' ⟨he,φ',hS',hact'⟩=>?_
   subst he
   have hp:Post T B φ0 H0 w0 nt e aa' H' (z6y e) a' w':=⟨rfl,φ',hS.trans hS',hact'⟩
   cases e with
   | goto l=>exact(hne l aa' H' h).elim
   | normal=>exact hp
   | ret=>exact hp
   | exit id=>exact hp
theorem k1e(hT:TOk2 T P)(hE:EnvOk P T B E)(hdraw:∀ rec,z1p P T B rec->j8t P T B E rec) :∀ n,z1p P T B (ev E n)/\j8r P T B E n
 | 0=>⟨fun c nt ro ro' aa H φ a w _ _ _ _ _ _ h=>by simp[ev]at h,fun b nt ro ro' φ0 H0 w0 aa H φ a w _ _ _ _ _ _ h=>by simp[ev]at h⟩
 | n+1=>by
  obtain⟨IH,IHL⟩:=k1e hT hE hdraw n
  have loops:j8r P T B E (n+1):=by
   intro b nt ro ro' φ0 H0 w0 aa H φ a w hS hact hro e aa' H' h
   simp only[ev]at h
   rw[roundsIn_succ]
   split at h
   .rename_i a1 H1 hr
    refine wpIn_mono (IH b nt ro ro' aa H φ a w hS.rel hact hro hr) fun e' a' w' ⟨he,φ',hS',hact'⟩=>?_
    subst he
    exact IHL b nt ro ro' φ0 H0 w0 a1 H1 φ' a' w' (hS.trans hS') hact' (hro.mono hS'.ext.le) h
   .rename_i hne
    refine wpIn_mono (IH b nt ro ro' aa H φ a w hS.rel hact hro h) fun e' a' w' ⟨he,φ',hS',hact'⟩=>?_
    subst he
    have hp:Post T B φ0 H0 w0 nt e aa' H' (z6y e) a' w':=⟨rfl,φ',hS.trans hS',hact'⟩
    cases e with
    | normal=>exact(hne aa' H' h).elim
    | goto l=>exact hp
    | ret=>exact hp
    | exit id=>exact hp
  refine⟨?_,loops⟩
  intro c nt ro ro' aa H φ a w hH hact hro e aa' H' h
  have id0:Sim T B φ H w φ H w:=Sim.refl hH
  cases c with
  | skip =>
   simp only[comp,ev]at h
   cases h
   exact wpIn_skip ⟨rfl,φ,id0,hact⟩
  | label l =>
   simp only[comp,ev]at h
   cases h
   exact wpIn_label ⟨rfl,φ,id0,hact⟩
  | exit id =>
   simp only[comp,ev]at h
   cases h
   exact wpIn_exit ⟨rfl,φ,id0,hact⟩
  | goto l =>
   simp only[comp,ev]at h
   cases h
   exact wpIn_goto ⟨rfl,φ,id0,hact⟩
  | ret =>
   simp only[comp,ev]at h
   cases h
   exact wpIn_ret ⟨rfl,φ,id0,hact⟩
  | refuse u=>simp[comp,ev]at h
  | region id ops draw =>
   cases draw with
   | false =>
    simp only[comp]at h
    split at h
    .rename_i al hal
     split at h
     .simp[ev]at h
     .rename_i hne
      simp only[ev]at h
      refine z8d hT hE IH hal (fun hr=>?_) hH hact h
      cases hn:z6l al with
      | true=>rfl
      | false=>exact(hne hr hn).elim
    .simp[ev]at h
   | true =>
    simp only[comp]at h
    split at h
    .rename_i S hS
     simp only[ev]at h
     exact hdraw _ IH ops id nt ro' S φ H w aa a e aa' H' hS hH hact h
    .simp[ev]at h
  | seq x y =>
   simp only[comp,ev]at h
   refine wpIn_seq ?_
   split at h
   .rename_i a1 H1 hr
    refine wpIn_mono (IH x nt ro ro' aa H φ a w hH hact hro hr) fun e' a' w' ⟨he,φ',hS',hact'⟩=>?_
    subst he
    exact wpIn_mono (IH y nt ro ro' a1 H1 φ' a' w' hS'.rel hact' (hro.mono hS'.ext.le) h) fun e2 a2 w2 hp=>Post.trans hS' hp
   .rename_i hne
    refine wpIn_mono (IH x nt ro ro' aa H φ a w hH hact hro h) fun e' a' w' hp=>?_
    obtain⟨he,_⟩:=id hp
    subst he
    cases e with
    | normal=>exact(hne aa' H' h).elim
    | goto l=>exact hp
    | ret=>exact hp
    | exit id=>exact hp
  | cond x c1 c2 =>
   simp only[comp]at h
   split at h
   .rename_i ax hx
    simp only[ev]at h
    have hv:=z0m hH hact.t hx
    split at h
    .rename_i hb
     rw[hb]at hv
     exact wpIn_cond_true hv (IH c1 nt ro ro' aa H φ a w hH hact hro h)
    .rename_i hb
     rw[hb]at hv
     exact wpIn_cond_false hv (IH c2 nt ro ro' aa H φ a w hH hact hro h)
    .cases h
   .simp[ev]at h
  | block id b =>
   simp only[comp,ev]at h
   refine wpIn_block ?_
   split at h
   .rename_i id' a1 H1 hr
    refine wpIn_mono (IH b nt ro ro' aa H φ a w hH hact hro hr) fun e' a' w' ⟨he,φ',hS',hact'⟩=>?_
    subst he
    split at h
    .rename_i hb
     have hb:=Nat.eq_of_beq_eq_true hb
     subst hb
     cases h
     simp only[z6y,Exit.inBlock,if_true]
     exact⟨rfl,φ',hS',hact'⟩
    .rename_i hb
     cases h
     have hne:¬ (id'=id):=fun e=>by rw[e]at hb;rw[Nat.beq_refl]at hb;cases hb
     simp only[z6y,Exit.inBlock,if_neg hne]
     exact⟨rfl,φ',hS',hact'⟩
   .rename_i hne
    refine wpIn_mono (IH b nt ro ro' aa H φ a w hH hact hro h) fun e' a' w' hp=>?_
    have hp':=hp
    obtain⟨he,_⟩:=hp'
    subst he
    cases e with
    | normal=>exact hp
    | goto l=>exact hp
    | ret=>exact hp
    | exit id'=>exact(hne id' aa' H' h).elim
  | loop b =>
   simp only[comp]at h
   exact wpIn_loop_rounds (n+1) (loops b nt ro ro' φ H w aa H φ a w id0 hact hro h)
  | rangeFunc f ps x y =>
   simp only[comp]at h
   split at h
   .rename_i ax hx hps
    simp only[ev]at h
    split at h
    .rename_i dfr ds h1 hen
     have henter:∃ (c:Nat) (mark:List Deferred) (φ1:Emb) (w1:World) (y:Place),((ro'=none/\c=w.heap.size/\mark=[{ target:=.collected c,args:=#[] }]/\w1=w.alloc (.deferred (some [])))\/(∃ l lp,ro'=some l/\(Instr.getLoop l).run P w=.ok lp w/\c=lp.defers/\mark=[]/\w1=w)) ∧
       Sim T B φ H w φ1 h1 w1/\φ1 dfr=some y/\c=y.c/\j8a φ1 ds (mark++a.defers):=by
      cases ro with
      | none =>
       cases ro' with
       | some l=>exact hro.elim
       | none =>
        simp only[AHeap.new]at hen
        cases hen
        have hS:=Sim.new hH (.dfr true) (.deferred (some [])) 0 ⟨by show(w.heap.push _)[w.heap.size]? = _;simp,hH.base⟩
        exact⟨w.heap.size,_,_,_,⟨w.heap.size,0,0⟩,.inl ⟨rfl,rfl,rfl,rfl⟩,hS,Emb.put_same _ _ _,rfl,_,_,rfl,⟨⟨w.heap.size,0,0⟩,Emb.put_same _ _ _,rfl⟩,hact.ds.mono hS.ext.le⟩
      | some l =>
       cases ro' with
       | none=>exact hro.elim
       | some l' =>
        obtain⟨y,hy,rfl⟩:=hro
        simp only at hen
        split at hen
        .rename_i rl hg
         cases hen
         obtain⟨lp,q1,q2,z1,z2,z3,z4,z5,z6,z7,yd,z8,z9⟩:=z8l (P:=P) hH hy hg
         exact⟨lp.defers,[],φ,w,yd,.inr ⟨_,lp,rfl,q1,rfl,rfl,rfl⟩,id0,z8,z9,hact.ds⟩
        .cases hen
     simp only[AHeap.new]at h
     split at h
     .rename_i v h3 hcall
      split at hcall
      .rename_i g first caps hg
       split at h
       .rename_i rr hget
        split at h
        .cases h
        .rename_i hst
         have:=q0x (assign:=x) (body:=y) hT hE IH hx hps (r:=ro') hH hact hg hcall hget hst henter
         split at h
         all_goals
          rename_i hp
          cases h
          rw[hp]at this
          exact this
       .cases h
      .cases hcall
     .cases h
    .cases h
   .simp[ev]at h
  | scope b =>
   simp only[comp,ev]at h
   exact z83 n (y1a IH id0 hact hro h)
end
end Go.Am
