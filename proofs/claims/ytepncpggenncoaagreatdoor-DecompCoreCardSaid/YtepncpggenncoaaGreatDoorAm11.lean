import Derived.Test.YtepncpggenncoaaGreatDoorAm10
import Derived.Maps.RangeRun
set_option linter.unusedSimpArgs false
set_option linter.unusedVariables false
set_option maxHeartbeats 8000000
namespace Go.Am
open Go Go.RowKit
open Go.ChangeMaps (setBlock)
theorem q0m(t:PT AVal)(p q:Pos)(v:AVal) :tget (tput t (some p) v) q=match Pos.beq p q with | true=>v | false=>tget t q:=by
 unfold tget tput
 cases h:Pos.beq p q with
 | true =>
  have:=Pos.beq_eq.1 h
  subst this
  simp[PT.get_set_same]
 | false =>
  have hne:p≠q:=fun e=>by rw[Pos.beq_eq.2 e]at h;cases h
  simp[PT.get_set_other _ _ _ _ hne]
def qops(H:AHeap) :List AOper->PT AVal->Option (PT AVal)
 | [],t=>some t
 | o::l,t=>match o.guard with
  | none=>match quiet t H o.op with
   | some v=>qops H l (tput t o.dst v)
   | none=>none
  | some _=>none
section
variable{P:Program}{T:Tys}{B:Nat}{φ:Emb}{H:AHeap}{w:World}{nt:Nat}{t:PT AVal}{a:Act}
theorem j0z{r:Option Nat}{o:Oper}{ρ:Operand->Value} :∀ f,o.about P w ρ=some f->(FR r).fn f:=fun f _=>j22 r f
theorem z8i{o:Oper}{ao:AOp}(hc:z2r T o.op=some ao){v:AVal}(h:quiet t H ao=some v) :∀ c,o.op≠.defer c:=by
 intro c hd
 rw[hd]at hc
 simp only[z2r]at hc
 split at hc
 .split at hc
  .cases hc;simp[quiet]at h
  .cases hc
 .cases hc
theorem z3r(hT:TOk2 T P){r:Option Nat}{ops:Array Oper}{Q:Exit->Act->World->Prop}{rest:List Oper} :
  ∀ {l:List Oper} {al:List AOper} {t t':PT AVal} {ds:List ADef} {a:Act},z0n T nt ops.toList l=some al->HRel T B φ H w->ActRel φ nt ⟨t,ds⟩ a->qops H al t=some t' →
   (∀ a',ActRel φ nt ⟨t',ds⟩ a'->wpListIn (FR r) 0 P ops Q rest a' w)->wpListIn (FR r) 0 P ops Q (l++rest) a w
 | [],al,t,t',ds,a,hc,hH,hact,hq,hk=>by
  simp[z0n]at hc
  subst hc
  simp only[qops]at hq
  cases hq
  exact hk a hact
 | o::l,al,t,t',ds,a,hc,hH,hact,hq,hk=>by
  simp only[z0n]at hc
  split at hc
  .rename_i ao m ho hm
   cases hc
   obtain⟨hg,hd,hop⟩:=z40 ho
   simp only[qops]at hq
   split at hq
   .rename_i hgn
    split at hq
    .rename_i v hv
     rcases hop with hop | hop
     .obtain⟨u,hu,hvu⟩:=j4u hT hH hact.t hop hv
      simp only[List.cons_append,wpListIn]
      have hw:Region.wanted o (yielded ops a.tmps)=true:=z3x hact.t hg (by rw[hgn];rfl)
      rw[hw,if_pos rfl]
      refine⟨j0z,?_⟩
      rw[Oper.semAt_eq _ _ _ (z8i hop hv),hu]
      exact z3r hT hm hH (hact.put hd hvu) hq hk
     .rw[hop]at hv;simp[quiet]at hv
    .cases hq
   .cases hq
  .cases hc
theorem z00{F:Fence}{n:Nat}{ops:Array Oper}{id:Nat}{Q:Exit->Act->World->Prop}(h:wpListIn F n P ops Q ops.toList a w) :(Code.region id ops false).wpIn F n P Q a w:=by
 refine wpIn_region ?_
 have hlist:=wpOpsIn_eq_wpListIn (F:=F) (n:=n) (P:=P) (ops:=ops) (Q:=Q) ops.toList 0 (fun j=>by simp)
 rw[List.range_eq_range',show ops.size=ops.toList.length by simp,hlist]
 exact h
theorem z1f(hT:TOk2 T P){r:Option Nat}{ops:Array Oper}{id:Nat}{Q:Exit->Act->World->Prop}{al:List AOper}{t':PT AVal}{ds:List ADef}(hc:z0n T nt ops.toList ops.toList=some al)(hH:HRel T B φ H w)(hact:ActRel φ nt ⟨t,ds⟩ a)(hq:qops H al t=some t')
  (hk:∀ a',ActRel φ nt ⟨t',ds⟩ a'->Q .normal a' w) :(Code.region id ops false).wpIn (FR r) 0 P Q a w:=by
 refine z00 ?_
 have:=z3r (rest:=[]) (Q:=Q) hT hc hH hact hq hk (r:=r)
 simpa using this
theorem z35{r:Option Nat}{ops:Array Oper}{o:Oper}{rest:List Oper}{Q:Exit->Act->World->Prop}{u:Value}{w':World}(hg:o.guard=none)(hd:∀ c,o.op≠.defer c)(hrun:(execOp a.eval o).run P w=.ok (.value u) w')
  (hk:wpListIn (FR r) 0 P ops Q rest (a.put o.dst u) w') :wpListIn (FR r) 0 P ops Q (o::rest) a w:=by
 refine wpListIn_plain hg fun K hK=>⟨j0z,?_⟩
 rw[Oper.semAt_eq _ _ _ hd,hrun]
 exact hK _ _ hk
structure IterAt (w:World) (r bm since:Nat) (left:List MapEntry) (seen:Array Nat) (c0:Nat) (es:Array MapEntry) (clock:Nat) :Prop where
 it:w.heap[r]? = some (.mapIter (some bm) since seen c0)
 map:w.heap[bm]? = some (.map es clock)
 old:∀ x∈es.toList,x.born<since
 sc:since<=c0
 scl:since<=clock
 left:(leftOf es seen).toList.Perm left
 nodup:(es.toList.map (·.born)).Nodup
theorem z1x(es:Array MapEntry)(seen:Array Nat) :(leftOf es seen).toList=es.toList.filter fun e=>!seen.contains e.born:=by simp[leftOf]
theorem j9o(es:Array MapEntry)(seen:Array Nat)(b:Nat) :(leftOf es (seen.push b)).toList=(leftOf es seen).toList.filter fun e=>!(e.born==b):=by
 rw[z1x,z1x,List.filter_filter]
 congr 1
 funext e
 simp
 grind
theorem y4o{l1 l2:List MapEntry}{e:MapEntry}(h:((l1++e::l2).map (·.born)).Nodup) :(l1++e::l2).filter (fun x=>!(x.born==e.born))=l1++l2:=by
 simp only[List.map_append,List.map_cons]at h
 obtain⟨h1,h2,h3⟩:=List.nodup_append.1 h
 have ha:l1.filter (fun x=>!(x.born==e.born))=l1:=List.filter_eq_self.2 fun x hx=>by
  have:=h3 x.born (List.mem_map.2 ⟨x,hx,rfl⟩) e.born (by simp)
  simpa using this
 have hb:l2.filter (fun x=>!(x.born==e.born))=l2:=List.filter_eq_self.2 fun x hx=>by
  have:=(List.nodup_cons.1 h2).1
  have:x.born≠e.born:=fun he=>this (he▸List.mem_map.2 ⟨x,hx,rfl⟩)
  simpa using this
 rw[List.filter_append,List.filter_cons,ha,hb]
 simp
theorem IterAt.step{r bm since:Nat}{l1 l2:List MapEntry}{e:MapEntry}{seen:Array Nat}{c0:Nat}{es:Array MapEntry}{clock:Nat}{w1:World}(h:IterAt w r bm since (l1++e::l2) seen c0 es clock)(hw:w1=w\/w1=w.drew) :
  IterAt (setBlock w1 r (.mapIter (some bm) since (seen.push e.born) clock)) r bm since (l1++l2) (seen.push e.born) clock es clock:=by
 have hh:w1.heap=w.heap:=by rcases hw with rfl | rfl<;>rfl
 have hlt:r<w.heap.size:=by
  rcases Nat.lt_or_ge r w.heap.size with h' | h'
  .exact h'
  .have:=h.it;rw[Array.getElem?_eq_none h']at this;cases this
 have hne:r≠bm:=fun he=>by have h1:=h.it;have h2:=h.map;rw[he,h2]at h1;cases h1
 have hnd:((l1++e::l2).map (·.born)).Nodup:=by
  have:((leftOf es seen).toList.map (·.born)).Nodup:=by
   rw[z1x]
   exact h.nodup.sublist (List.filter_sublist.map _)
  exact(h.left.map (·.born)).nodup_iff.1 this
 refine⟨?_,?_,h.old,h.scl,h.scl,?_,h.nodup⟩
 .show(w1.heap.setIfInBounds r _)[r]? = _
  rw[hh];simp[hlt]
 .show(w1.heap.setIfInBounds r _)[bm]? = _
  rw[hh,Array.getElem?_setIfInBounds_ne hne];exact h.map
 .rw[j9o]
  have:=h.left.filter fun x=>!(x.born==e.born)
  rw[y4o hnd]at this
  exact this
theorem j9k{ro:Option Nat}{rn b0 b1:Nat}{o1 o2:Oper}{tN tB it:Nat}{body:Code}{Q:Exit->Act->World->Prop}{rb bm since:Nat}{γ:Type}{ent:γ->MapEntry}{S:List γ->Act->World->Prop}
  (h1:o1.op=.next (.tmp it) false) (h1d:o1.dst=some tN) (h1g:o1.guard=none) (h2:o2.op=.extract (.tmp tN) 0) (h2d:o2.dst=some tB) (h2g:o2.guard=none)
  (hS:∀ left a w,S left a w->a.eval (.tmp it)=.pointer (some ⟨rb,0,none⟩)/\tN<a.tmps.size/\tB<a.tmps.size/\∃ seen c0 es clock,IterAt w rb bm since (left.map ent) seen c0 es clock)
  (hstep:∀ l1 x l2 a w w1 seen c0 es clock,S (l1++x::l2) a w->IterAt w rb bm since ((l1++x::l2).map ent) seen c0 es clock->(w1=w\/w1=w.drew) →
   body.wpIn (FR ro) 0 P (fun e a' w'=>e=.normal/\S (l1++l2) a' w') ((a.put (some tN) (.tuple #[.bool true,(ent x).key,(ent x).val])).put (some tB) (.bool true)) (setBlock w1 rb (.mapIter (some bm) since (seen.push (ent x).born) clock)))
  (hend:∀ a w,S [] a w->Q .normal ((a.put (some tN) (.tuple #[.bool false])).put (some tB) (.bool false)) w) {left:List γ} {a:Act} {w:World} (h:S left a w) :
  (Code.block b0 (.loop (.seq (.region rn #[o1,o2] false) (.seq (.cond (.tmp tB) .skip (.exit b0)) (.block b1 body))))).wpIn (FR ro) 0 P Q a w:=by
 refine wpIn_block (wpIn_loop_rounds (left.length+1) ?_)
 generalize hn:left.length=k
 induction k generalizing left a w with
 | zero =>
  have:left=[]:=List.length_eq_zero_iff.1 hn
  subst this
  obtain⟨e1,e2,e3,seen,c0,es,clock,hI⟩:=hS _ _ _ h
  rw[roundsIn_succ]
  refine wpIn_seq (z00 ?_)
  show wpListIn _ _ _ _ _ [o1,o2] a w
  have hrun:(execOp a.eval o1).run P w=.ok (.value (.tuple #[.bool false])) w:=by
   rcases run_next_at (P:=P) w o1.type rb bm since c0 seen es clock hI.it hI.map hI.old hI.sc with⟨_,g⟩ | ⟨e,he,_⟩
   .simp only[execOp,h1,e1,Sem.run_bind,g,Result.andThen_ok,Sem.run_pure]
   .exfalso
    have:=hI.left.mem_iff.1 he
    simp at this
  refine z35 h1g (by rw[h1];intro c hc;cases hc) hrun ?_
  rw[h1d]
  have hev:(a.put (some tN) (.tuple #[.bool false])).eval (.tmp tN)=.tuple #[.bool false]:=by
   simp[Act.eval,Act.put,e2]
  have hrun2:(execOp (a.put (some tN) (.tuple #[.bool false])).eval o2).run P w=.ok (.value (.bool false)) w:=by
   simp[execOp,h2,hev,Instr.extract]
  refine z35 h2g (by rw[h2];intro c hc;cases hc) hrun2 ?_
  rw[h2d]
  simp only[wpListIn,Exit.then]
  refine wpIn_seq (wpIn_cond_false ?_ (wpIn_exit ?_))
  .simp[Act.eval,Act.put,e3]
  .simp only[Exit.then,Exit.inBlock,if_true]
   exact hend a w h
 | succ k ih =>
  obtain⟨e1,e2,e3,seen,c0,es,clock,hI⟩:=hS _ _ _ h
  rw[roundsIn_succ]
  refine wpIn_seq (z00 ?_)
  show wpListIn _ _ _ _ _ [o1,o2] a w
  rcases run_next_at (P:=P) w o1.type rb bm since c0 seen es clock hI.it hI.map hI.old hI.sc with⟨hz,_⟩ | ⟨e,he,w1,hw1,g⟩
  .exfalso
   have:=hI.left.length_eq
   rw[Array.length_toList,hz]at this
   simp[hn]at this
  .have hmem:=hI.left.mem_iff.1 he
   obtain⟨x,hx,rfl⟩:=List.mem_map.1 hmem
   obtain⟨l1,l2,rfl⟩:=List.append_of_mem hx
   have hrun:(execOp a.eval o1).run P w=.ok (.value (.tuple #[.bool true,(ent x).key,(ent x).val])) (setBlock w1 rb (.mapIter (some bm) since (seen.push (ent x).born) clock)):=by
    simp only[execOp,h1,e1,Sem.run_bind,g,Result.andThen_ok,Sem.run_pure]
   refine z35 h1g (by rw[h1];intro c hc;cases hc) hrun ?_
   rw[h1d]
   generalize hwn:setBlock w1 rb (.mapIter (some bm) since (seen.push (ent x).born) clock)=wn
   have hev:(a.put (some tN) (.tuple #[.bool true,(ent x).key,(ent x).val])).eval (.tmp tN)=.tuple #[.bool true,(ent x).key,(ent x).val]:=by
    simp[Act.eval,Act.put,e2]
   have hrun2:(execOp (a.put (some tN) (.tuple #[.bool true,(ent x).key,(ent x).val])).eval o2).run P wn=.ok (.value (.bool true)) wn:=by
    simp[execOp,h2,hev,Instr.extract]
   refine z35 h2g (by rw[h2];intro c hc;cases hc) hrun2 ?_
   rw[h2d]
   simp only[wpListIn,Exit.then]
   refine wpIn_seq (wpIn_cond_true ?_ (wpIn_skip ?_))
   .simp[Act.eval,Act.put,e3]
   .simp only[Exit.then]
    refine wpIn_block ?_
    rw[<-hwn]
    refine wpIn_mono (hstep l1 x l2 a w w1 seen c0 es clock h hI hw1) fun e a' w' ⟨he,hS'⟩=>?_
    subst he
    simp only[Exit.inBlock,Exit.then]
    exact ih hS' (by simp at hn ⊢;omega)
end
theorem q6t{m n:Nat}(hm:m<2147483648)(hn:n<2147483648) :Pos.beq (Pos.ofNat m) (Pos.ofNat n)=(m==n):=by
 by_cases e:m=n
 .subst e;simp[Pos.beq_eq.2 rfl]
 .have:Pos.beq (Pos.ofNat m) (Pos.ofNat n)=false:=by
   cases hb:Pos.beq (Pos.ofNat m) (Pos.ofNat n)with
   | false=>rfl
   | true=>exact absurd (Pos.ofNat_inj hm hn (Pos.beq_eq.1 hb)) e
  rw[this];simp[e]
theorem z0e(t:PT AVal){p q:Nat}(hp:p<2147483648)(hq:q<2147483648)(v:AVal) :tget (tput t (some (Pos.ofNat p)) v) (Pos.ofNat q)=if p=q then v else tget t (Pos.ofNat q):=by
 rw[q0m,q6t hp hq]
 by_cases e:p=q
 .subst e;simp
 .have:(p==q)=false:=by simp[e]
  rw[this,if_neg e]
def AHeap.bump(h:AHeap) :AHeap:=⟨h.t,h.nx.succ⟩
section
variable{P:Program}{T:Tys}{B:Nat}{φ:Emb}{H:AHeap}{w:World}{nt:Nat}{t:PT AVal}{a:Act}
theorem Sim.bump(hH:HRel T B φ H w)(ob:Obj)(k:Nat) :Sim T B φ H w (φ.put H.nx ⟨w.heap.size,0,k⟩) H.bump (w.alloc ob):=by
 have hp:=hH.fresh
 have hg:=hH.fresh_get
 refine⟨⟨Emb.le_put _ hp,fun p hp' hn=>⟨?_,rfl⟩,by simp[AHeap.bump,Pos.toNat_succ]⟩,?_,(Below.refl B w).alloc hH.base ob⟩
 .rw[Emb.put_other];exact hn
  intro e;rw[e]at hp';omega
 .refine hH.place H.nx _ hp (by simp[AHeap.bump,Pos.toNat_succ]) (by simp[AHeap.bump,Pos.toNat_succ]) (fun _ _=>.inl rfl) (fun q z _ _ hz=>?_) (by simp) (by simp) (fun o' h'=>?_)
  .have:=(hH.low q z hz).2
   exact⟨Nat.ne_of_lt this,Below.heap_alloc _ _ _ this⟩
  .have h':PT.get H.nx H.t=some o':=h'
   rw[hg]at h';cases h'
def z82(φ:Emb)(H:AHeap)(r:Nat) :Prop:=∀ p x,PT.get p H.t≠none->φ p=some x->x.c≠r
theorem z82.bump(hH:HRel T B φ H w)(k:Nat) :z82 (φ.put H.nx ⟨w.heap.size,0,k⟩) H.bump w.heap.size:=by
 intro p x hp hx
 have hp:PT.get p H.t≠none:=hp
 have e:p≠H.nx:=fun e=>hp (by rw[e];exact hH.fresh_get)
 rw[Emb.put_other _ _ e]at hx
 exact Nat.ne_of_lt (hH.low p x hx).2
theorem HRel.setIter{r:Nat}(hH:HRel T B φ H w)(ha:z82 φ H r){w1:World}(hw:w1=w\/w1=w.drew)(ob:Obj) :HRel T B φ H (setBlock w1 r ob):=by
 have hh:w1.heap=w.heap:=by rcases hw with rfl | rfl<;>rfl
 have hsz:(setBlock w1 r ob).heap.size=w.heap.size:=by simp[setBlock,hh]
 refine⟨fun p o x h1 h2=>(hH.obj p o x h1 h2).mono (Emb.le_refl _) ?_,hH.inj,fun p x h1=>by rw[hsz];exact hH.low p x h1,hH.dom,by rw[hsz];exact hH.base,hH.glob⟩
 show(w1.heap.setIfInBounds r ob)[x.c]? = _
 rw[hh,Array.getElem?_setIfInBounds_ne (fun e=>ha p x (by rw[h1];simp) h2 e.symm)]
theorem Below.setIter{r:Nat}{w0:World}(h:Below B w0 w)(hr:B<=r){w1:World}(hw:w1=w\/w1=w.drew)(ob:Obj) :Below B w0 (setBlock w1 r ob):=by
 have hh:w1.heap=w.heap:=by rcases hw with rfl | rfl<;>rfl
 have h1:w1.os=w.os/\w1.tape=w.tape/\w1.output=w.output:=by rcases hw with rfl | rfl<;>exact⟨rfl,rfl,rfl⟩
 refine h.trans ⟨h1.1,h1.2.1,h1.2.2,by simp[setBlock,hh],fun k hk=>?_⟩
 show(w1.heap.setIfInBounds r ob)[k]? = _
 rw[hh,Array.getElem?_setIfInBounds_ne (by omega)]
abbrev Trip:=AVal×AVal×MapEntry
def Trip.ent(x:Trip) :MapEntry:=x.2.2
def j4i(φ:Emb)(x:Trip) :Prop:=VRel φ x.1 x.2.2.key/\VRel φ x.2.1 x.2.2.val
def Trip.ab(x:Trip) :AVal×AVal:=(x.1,x.2.1)
theorem j4k{es:List (AVal×AVal)} :∀ {l:List MapEntry},LRel φ (es.map (·.1)) (l.map (·.key))->LRel φ (es.map (·.2)) (l.map (·.val)) →
  ∃ ts:List Trip,ts.map Trip.ent=l/\ts.map Trip.ab=es/\∀ x∈ts,j4i φ x:=by
 induction es with
 | nil =>
  intro l h1 _
  have:l.map (·.key)=[]:=h1
  have:l=[]:=by simpa using this
  exact⟨[],by simp[this],rfl,by simp⟩
 | cons e es ih =>
  intro l h1 h2
  obtain⟨v,vs,e1,e2,e3⟩:=h1
  obtain⟨u,us,g1,g2,g3⟩:=h2
  cases l with
  | nil=>cases e1
  | cons x l =>
   simp only[List.map_cons,List.cons.injEq]at e1 g1
   obtain⟨rfl,rfl⟩:=e1
   obtain⟨rfl,rfl⟩:=g1
   obtain⟨ts,h1,h2,h3⟩:=ih e3 g3
   refine⟨(e.1,e.2,x)::ts,by simp[h1,Trip.ent],by simp[h2,Trip.ab],?_⟩
   intro y hy
   rcases List.mem_cons.1 hy with rfl | hy
   .exact⟨e2,g2⟩
   .exact h3 y hy
theorem z3g(hT:TOk2 T P){fn:Func}{c:Code}{f:FuncId}(g1:P.funcs[f]? = some fn)(g2:(fn.name == "runtime.NumGoroutine")=false)(k1:fn.body=some c){ars:List (Pos×Option Nat)}(k4:z2q T fn.results.toList=some ars){vs:Array Value}
  {ex:AExit} {H':AHeap} {l:List AVal} (hex:ex=.normal\/ex=.ret)
  (hw:c.wpIn (FR none) 0 P (fun e a' w'=>∃ t',z0u t' H' ars=some l/\Post T B φ H w fn.ntmps ex ⟨t',[]⟩ H' e a' w') { tmps:=vs++Array.replicate (fn.ntmps-vs.size) undef,defers:=[] } w) :
  z4r P T B φ H w f vs (j3h l) H':=by
 refine⟨z29 g1 g2 k1,?_⟩
 refine callsIn_of_wp_marks g1 k1 trivial (wpIn_mono hw fun e' a' w' ⟨t',hr,he',φ',hS,hact⟩=>?_)
 have hE:EnvOk P T B ⟨.l,.l,.l⟩:=⟨fun f fi _ h=>(by rw[z2o]at h;cases h),fun f s _ h=>(by rw[z2o]at h;cases h),fun f s _ h=>(by rw[z2o]at h;cases h)⟩
 have:=z6g (P:=P) hT.toTOk hE (rec:=fun _ _ _ _=>none) (fun c nt ro ro' aa H φ a w _ _ _ _ _ _ h=>by cases h) (fn:=fn) k4 hS hact.t hact.ds (H':=H') rfl hr
 subst he'
 rcases hex with rfl | rfl<;>exact this
theorem qnil{Q:PT AVal->Prop}(h:Q t) :∃ t',qops H [] t=some t'/\Q t':=⟨t,rfl,h⟩
theorem z02{Q:PT AVal->Prop}{o:AOper}{l:List AOper}(v:AVal)(hg:o.guard=none)(hq:quiet t H o.op=some v)(h:∃ t',qops H l (tput t o.dst v)=some t'/\Q t') :∃ t',qops H (o::l) t=some t'/\Q t':=by
 obtain⟨t',h1,h2⟩:=h
 refine⟨t',?_,h2⟩
 simp only[qops,hg,hq]
 exact h1
theorem z5k{args:List AVal}{vs:Array Value}{n:Nat}{t:PT AVal}(h:z48 args 0 n .l=some t)(hl:LRel φ args vs.toList)(hn:n<2^31) :ActRel φ n ⟨t,[]⟩ { tmps:=vs++Array.replicate (n-vs.size) undef,defers:=[] } :=
 ⟨j34 h hl hn,by show([] :List Deferred)=[];rfl⟩
end
def j3x(h:AHeap) :AVal->Option Nat
 | .ptr fb o=>match z04 h fb o with
  | some (.sl _ _ len _ _)=>some len
  | some .snil=>some 0
  | _=>none
 | _=>none
def z42(h:AHeap) :List (AVal×AVal)->Option Nat
 | []=>some 0
 | (k,_)::es=>match j3x h k with
  | some n=>match z42 h es with
   | some m=>some (Nat.add n m)
   | none=>none
  | none=>none
def j61:List AVal->AHeap->ARes
 | [.ptr b o],h=>match z04 h b (Nat.add o 4)with
  | some (.map m)=>match PT.get m h.t with
   | some (.map es)=>match z42 h es with
    | some n=>match Nat.ble n 9223372036854775807 with
     | true=>some (.int .i64 (.ofNat n),h.bump)
     | false=>none
    | none=>none
   | _=>none
  | _=>none
 | _,_=>none
theorem j1b{h:AHeap}{x:AVal×AVal}{l2:List (AVal×AVal)} :∀ {l1:List (AVal×AVal)} {n:Nat},z42 h (l1++x::l2)=some n->∃ a b,j3x h x.1=some a/\z42 h (l1++l2)=some b/\n=a+b
 | [],n,e=>by
  simp only[List.nil_append,z42]at e ⊢
  split at e
  .rename_i a ha
   split at e
   .rename_i m hm
    cases e
    exact⟨a,m,ha,hm,rfl⟩
   .cases e
  .cases e
 | y::l1,n,e=>by
  simp only[List.cons_append,z42]at e ⊢
  split at e
  .rename_i c hc
   split at e
   .rename_i m hm
    cases e
    obtain⟨a,b,h1,h2,h3⟩:=j1b hm
    refine⟨a,c+b,h1,by rw[h2];rfl,?_⟩
    show c+m=_
    omega
   .cases e
  .cases e
section
variable{P:Program}{T:Tys}{B:Nat}
theorem y3w(hT:TOk2 T P){f:FuncId}{fn:Func}(hf:P.funcs[f]? = some fn)(hname:(fn.name == "runtime.NumGoroutine")=false){i0 i1 i2 i3 i4 i5 i6 b0 b1:Nat}{p0 p1 q0 q1 q2 q3 oR n1 n2 oE e1 e2:Oper}{ops5 ops6:Array Oper}
  (hb:fn.body=some (.seq (.region i0 #[p0] false) (.seq (.region i1 #[p1] false) (.seq (.seq (.region i2 #[q0,q1,q2,q3,oR] false)
   (.block b0 (.loop (.seq (.region i3 #[n1,n2] false) (.seq (.cond (.tmp 11) .skip (.exit b0)) (.block b1 (.seq (.region i4 #[oE,e1,e2] false) (.region i5 ops5 false)))))))) (.seq (.region i6 ops6 false) .ret)))))
  (hnt:fn.ntmps=22) (hres:z2q T fn.results.toList=some [(Pos.ofNat 2,none)])
  (c0:z0n T 22 [p0] [p0]=some [⟨some (Pos.ofNat 2),.move (.c (.int .i64 0)),none⟩])
  (c1:z0n T 22 [p1] [p1]=some [⟨some (Pos.ofNat 3),.move (.c (.int .i64 0)),none⟩])
  (c2:z0n T 22 [q0,q1,q2,q3,oR] [q0,q1,q2,q3]=some [⟨some (Pos.ofNat 5),.move (.t (Pos.ofNat 0)),none⟩,⟨some (Pos.ofNat 6),.nilCheck (.t (Pos.ofNat 5)),none⟩,⟨some (Pos.ofNat 7),.fieldAddr 4 (.t (Pos.ofNat 6)),none⟩,⟨some (Pos.ofNat 8),.load1 (.t (Pos.ofNat 7)),none⟩])
  {tm kt et:TypeId} (hR:oR.op=.range tm (.tmp 8)) (hRd:oR.dst=some 9) (hRg:oR.guard=none) (hRt:P.underlying tm=some (.map kt et))
  (hn1:n1.op=.next (.tmp 9) false) (hn1d:n1.dst=some 10) (hn1g:n1.guard=none) (hn2:n2.op=.extract (.tmp 10) 0) (hn2d:n2.dst=some 11) (hn2g:n2.guard=none)
  (hE:oE.op=.entry (.tmp 9)) (hEd:oE.dst=some 12) (hEg:oE.guard=none)
  (c4:z0n T 22 [oE,e1,e2] [e1,e2]=some [⟨some (Pos.ofNat 13),.extract (.t (Pos.ofNat 12)) 0,none⟩,⟨some (Pos.ofNat 4),.move (.t (Pos.ofNat 13)),none⟩])
  (c5:z0n T 22 ops5.toList ops5.toList=some [⟨some (Pos.ofNat 14),.move (.t (Pos.ofNat 3)),none⟩,⟨some (Pos.ofNat 15),.move (.t (Pos.ofNat 4)),none⟩,⟨some (Pos.ofNat 16),.nilCheck (.t (Pos.ofNat 15)),none⟩,⟨some (Pos.ofNat 17),.fieldAddr 0 (.t (Pos.ofNat 16)),none⟩,
   ⟨some (Pos.ofNat 18),.load1 (.t (Pos.ofNat 17)),none⟩,⟨some (Pos.ofNat 19),.len 1 (.t (Pos.ofNat 18)),none⟩,⟨some (Pos.ofNat 20),.bin .add (.t (Pos.ofNat 14)) (.t (Pos.ofNat 19)),none⟩,⟨some (Pos.ofNat 3),.move (.t (Pos.ofNat 20)),none⟩])
  (c6:z0n T 22 ops6.toList ops6.toList=some [⟨some (Pos.ofNat 21),.move (.t (Pos.ofNat 3)),none⟩,⟨some (Pos.ofNat 2),.move (.t (Pos.ofNat 21)),none⟩]) :z2k P T B f j61:=by
 intro φ H w args args' v H' hH hl h
 unfold j61 at h
 split at h
 .rename_i b o
  split at h
  .rename_i m hm
   split at h
   .rename_i es hes
    split at h
    .rename_i N hN
     split at h
     .rename_i hle
      have hle:N<=9223372036854775807:=by simpa using hle
      cases h
      refine .inl ?_
      refine z3g (l:=[.int .i64 (.ofNat N)]) (ex:=.ret) hT hf hname hb hres (.inr rfl) ?_
      rw[hnt]
      have hact:ActRel φ 22 ⟨tput .l (some (Pos.ofNat 0)) (.ptr b o),[]⟩ { tmps:=args'++Array.replicate (22-args'.size) undef,defers:=[] }:=z5k rfl hl (by decide)
      generalize ({ tmps:=args'++Array.replicate (22-args'.size) undef,defers:=[] } :Act)=a at hact ⊢
      refine wpIn_seq (z1f hT c0 hH hact rfl fun a1 hact=>?_)
      refine wpIn_seq (z1f hT c1 hH hact rfl fun a2 hact=>?_)
      refine wpIn_seq (wpIn_seq (z00 ?_))
      have hadd:o+4=Nat.add o 4:=rfl
      obtain⟨t2,hq2,g0,g3,g8⟩ :∃ t2,qops H [⟨some (Pos.ofNat 5),.move (.t (Pos.ofNat 0)),none⟩,⟨some (Pos.ofNat 6),.nilCheck (.t (Pos.ofNat 5)),none⟩,⟨some (Pos.ofNat 7),.fieldAddr 4 (.t (Pos.ofNat 6)),none⟩,⟨some (Pos.ofNat 8),.load1 (.t (Pos.ofNat 7)),none⟩]
        (tput (tput (tput .l (some (Pos.ofNat 0)) (.ptr b o)) (some (Pos.ofNat 2)) (.int .i64 0)) (some (Pos.ofNat 3)) (.int .i64 0))=some t2/\tget t2 (Pos.ofNat 0)=.ptr b o/\tget t2 (Pos.ofNat 3)=.int .i64 (.ofNat 0)/\tget t2 (Pos.ofNat 8)=.map m:=by
       refine z02 (.ptr b o) rfl (by simp[quiet,AOpnd.ev,z0e]) ?_
       refine z02 (.ptr b o) rfl (by simp[quiet,AOpnd.ev,z0e]) ?_
       refine z02 (.ptr b (Nat.add o 4)) rfl (by simp[quiet,AOpnd.ev,z0e]) ?_
       refine z02 (.map m) rfl (by simp only[quiet,AOpnd.ev,z0e _ (show 7<2147483648 by decide) (show 7<2147483648 by decide),if_true,hm]) ?_
       refine qnil ⟨?_,?_,?_⟩
       .simp[z0e]
       .simp[z0e]
       .simp[z0e]
      show wpListIn _ _ _ #[q0,q1,q2,q3,oR] _ ([q0,q1,q2,q3]++[oR]) a2 w
      refine z3r hT c2 hH hact hq2 fun a3 hact3=>?_
      have hv8:=hact3.t.2.2 8 (by decide)
      rw[g8]at hv8
      obtain⟨x,hx,hv8⟩:=hv8
      obtain⟨es',clock,k1,⟨⟨l,pl,pk,pv⟩,nd1,nlt,nd2⟩,hBx⟩:=hH.obj m _ x hes hx
      have hrun:=run_range_map (P:=P) w tm kt et x.c es' clock hRt k1
      have hrun2:(execOp a3.eval oR).run P w=.ok (.value (.pointer (some ⟨w.heap.size,0,none⟩))) (w.alloc (.mapIter (some x.c) clock #[] clock)):=by
       have:a3.eval (.tmp 8)=.map (some x.c):=hv8
       simp only[execOp,hR,this,hrun,Sem.run_bind,Result.andThen_ok,Sem.run_pure]
      refine z35 hRg (by rw[hR];intro c hc;cases hc) hrun2 ?_
      rw[hRd]
      simp only[wpListIn,Exit.then]
      have hS1:=Sim.bump hH (.mapIter (some x.c) clock #[] clock) 0
      have hap:=z82.bump hH 0
      have hxlt:x.c<w.heap.size:=(hH.low m x hx).2
      have hits:IterAt (w.alloc (.mapIter (some x.c) clock #[] clock)) w.heap.size x.c clock l #[] clock es' clock:=by
       refine⟨heap_alloc_new _ _,?_,nlt,lr,lr,?_,nd1⟩
       .rw[heap_alloc_old _ _ hxlt];exact k1
       .rw[z1x]
        have:es'.toList.filter (fun e=>!(#[] :Array Nat).contains e.born)=es'.toList:=List.filter_eq_self.2 fun x _=>by simp
        rw[this]
        exact pl.symm
      have hact4:=(hact3.mono hS1.ext.le).put (o:=oR) (d:=some (Pos.ofNat 9)) (by rw[hRd];rfl) (v:=.ptr H.nx 0) (u:=.pointer (some ⟨w.heap.size,0,none⟩)) ⟨_,Emb.put_same _ _ _,rfl⟩
      rw[hRd]at hact4
      obtain⟨ts,ht1,ht2,ht3⟩:=j4k (LRel.mono hS1.ext.le _ _ pk) (LRel.mono hS1.ext.le _ _ pv)
      generalize hφ:φ.put H.nx ⟨w.heap.size,0,0⟩=φ1 at hS1 hap hact4 ht3
      have hφr:φ1 H.nx=some ⟨w.heap.size,0,0⟩:=by rw[<-hφ];exact Emb.put_same _ _ _
      have hld:∀ fb o,z04 H.bump fb o=z04 H fb o:=fun _ _=>rfl
      let S:List Trip->Act->World->Prop:=fun left a w'=>∃ t n k,ActRel φ1 22 ⟨t,[]⟩ a/\tget t (Pos.ofNat 9)=.ptr H.nx 0/\tget t (Pos.ofNat 3)=.int .i64 (.ofNat n)/\z42 H (left.map Trip.ab)=some k/\n+k=N ∧
       HRel T B φ1 H.bump w'/\Below B w w'/\(∀ x∈left,j4i φ1 x)/\∃ seen c0 es clk,IterAt w' w.heap.size x.c clock (left.map Trip.ent) seen c0 es clk
      have hS0:S ts (a3.put (some 9) (.pointer (some ⟨w.heap.size,0,none⟩))) (w.alloc (.mapIter (some x.c) clock #[] clock)) :=
       ⟨_,0,N,hact4,by simp[z0e],by simp[z0e,g3],by rw[ht2];exact hN,by omega,hS1.rel,hS1.below,ht3,#[],clock,es',clock,by rw[ht1];exact hits⟩
      have hbase:B<=w.heap.size:=hH.base
      refine j9k (S:=S) (ent:=Trip.ent) (rb:=w.heap.size) (bm:=x.c) (since:=clock) hn1 hn1d hn1g hn2 hn2d hn2g ?_ ?_ ?_ hS0
      .rintro left a w' ⟨t,n,k,s1,s2,s3,s4,s5,s6,s7,s8,s9⟩
       have hv:=s1.t.2.2 9 (by decide)
       rw[s2]at hv
       obtain⟨y,hy,hv⟩:=hv
       rw[hφr]at hy
       cases hy
       exact⟨hv,by rw[s1.t.1];decide,by rw[s1.t.1];decide,s9⟩
      .rintro l1 x1 l2 a w' w1 seen c0 es2 clk ⟨t,n,k,s1,s2,s3,s4,s5,s6,s7,s8,_⟩ hI hw1
       rw[List.map_append,List.map_cons]at hI s4
       have hI2:=hI.step hw1
       have hH2:=s6.setIter hap hw1 (.mapIter (some x.c) clock (seen.push (Trip.ent x1).born) clk)
       have hB2:=Below.setIter s7 hbase hw1 (.mapIter (some x.c) clock (seen.push (Trip.ent x1).born) clk)
       obtain⟨ka,kb,z1,z2,z3⟩:=j1b s4
       obtain⟨o1k,o1v⟩:=s8 x1 (by simp)
       have hmem:(Trip.ent x1)∈es2.toList:=by
        have:=hI.left.mem_iff.2 (show Trip.ent x1∈l1.map Trip.ent++Trip.ent x1::l2.map Trip.ent by simp)
        rw[z1x]at this
        exact(List.mem_filter.1 this).1
       have hent:=run_entry_at (P:=P) (setBlock w1 w.heap.size (.mapIter (some x.c) clock (seen.push (Trip.ent x1).born) clk)) w.heap.size x.c clock seen es2 clk (Trip.ent x1) hI2.it hI2.map hmem hI2.nodup
       generalize hwn:setBlock w1 w.heap.size (.mapIter (some x.c) clock (seen.push (Trip.ent x1).born) clk)=wn at hI2 hH2 hB2 hent ⊢
       have a1:=s1.put (o:=n1) (d:=some (Pos.ofNat 10)) (by rw[hn1d];rfl) (v:=.tup [.bool true,x1.1,x1.2.1]) (u:=.tuple #[.bool true,(Trip.ent x1).key,(Trip.ent x1).val]) ⟨_,rfl,_,_,rfl,rfl,_,_,rfl,o1k,_,_,rfl,o1v,rfl⟩
       have a2:=a1.put (o:=n2) (d:=some (Pos.ofNat 11)) (by rw[hn2d];rfl) (v:=.bool true) (u:=.bool true) rfl
       rw[hn1d,hn2d]at a2
       generalize (a.put (some 10) (.tuple #[.bool true,(Trip.ent x1).key,(Trip.ent x1).val])).put (some 11) (.bool true)=ar at a2 ⊢
       refine wpIn_seq (z00 ?_)
       show wpListIn _ _ _ #[oE,e1,e2] _ (oE::([e1,e2]++[])) ar wn
       have hv9:=a2.t.2.2 9 (by decide)
       simp only[z0e _ (show 11<2147483648 by decide) (show 9<2147483648 by decide),z0e _ (show 10<2147483648 by decide) (show 9<2147483648 by decide),s2]at hv9
       simp at hv9
       obtain⟨y,hy,hv9⟩:=hv9
       rw[hφr]at hy
       cases hy
       have hrunE:(execOp ar.eval oE).run P wn=.ok (.value (.tuple #[(Trip.ent x1).key,(Trip.ent x1).val])) wn:=by
        have:ar.eval (.tmp 9)=.pointer (some ⟨w.heap.size,0,none⟩):=by rw[show ar.eval (.tmp 9)=ar.tmps.getD 9 undef from rfl];simpa using hv9
        simp only[execOp,hE,this,hent,Sem.run_bind,Result.andThen_ok,Sem.run_pure]
       refine z35 hEg (by rw[hE];intro c hc;cases hc) hrunE ?_
       have a3:=a2.put (o:=oE) (d:=some (Pos.ofNat 12)) (by rw[hEd];rfl) (v:=.tup [x1.1,x1.2.1]) (u:=.tuple #[(Trip.ent x1).key,(Trip.ent x1).val]) ⟨_,rfl,_,_,rfl,o1k,_,_,rfl,o1v,rfl⟩
       obtain⟨fb,fo,hk⟩ :∃ fb fo,x1.1=.ptr fb fo:=by
        have:(Trip.ab x1).1=x1.1:=rfl
        rw[this]at z1
        unfold j3x at z1
        split at z1
        .rename_i fb fo h1;exact⟨fb,fo,h1⟩
        .cases z1
       obtain⟨sv,hsv,hlen⟩ :∃ sv,z04 H fb fo=some sv/\((∃ b1 o1 c1 s1,sv=.sl b1 o1 ka c1 s1)\/(sv=.snil/\ka=0)):=by
        have:(Trip.ab x1).1=x1.1:=rfl
        rw[this,hk]at z1
        simp only[j3x]at z1
        split at z1
        .rename_i h1;cases z1;exact⟨_,h1,.inl ⟨_,_,_,_,rfl⟩⟩
        .rename_i h1;cases z1;exact⟨_,h1,.inr ⟨rfl,rfl⟩⟩
        .cases z1
       rw[hk]at a3
       obtain⟨t4,hq4,r9,r3,r4⟩ :∃ t4,qops H.bump [⟨some (Pos.ofNat 13),.extract (.t (Pos.ofNat 12)) 0,none⟩,⟨some (Pos.ofNat 4),.move (.t (Pos.ofNat 13)),none⟩]
         (tput (tput (tput t (some (Pos.ofNat 10)) (.tup [.bool true,.ptr fb fo,x1.2.1])) (some (Pos.ofNat 11)) (.bool true)) (some (Pos.ofNat 12)) (.tup [.ptr fb fo,x1.2.1]))=some t4 ∧
         tget t4 (Pos.ofNat 9)=.ptr H.nx 0/\tget t4 (Pos.ofNat 3)=.int .i64 (.ofNat n)/\tget t4 (Pos.ofNat 4)=.ptr fb fo:=by
        refine z02 (.ptr fb fo) rfl (by simp[quiet,AOpnd.ev,z0e,lget]) ?_
        refine z02 (.ptr fb fo) rfl (by simp[quiet,AOpnd.ev,z0e]) ?_
        refine qnil ⟨?_,?_,?_⟩
        .simp[z0e,s2]
        .simp[z0e,s3]
        .simp[z0e]
       refine z3r hT c4 hH2 a3 hq4 fun a4 hact4=>?_
       simp only[wpListIn,Exit.then]
       have hwrap:z1n .i64 (addI (.ofNat n) (.ofNat ka))=.ofNat (n+ka):=by
        have:Nat.ble (Nat.add n ka) 9223372036854775807=true:=by
         rw[Nat.ble_eq];show n+ka<=_;omega
        simp only[addI,z1n,this]
        rfl
       obtain⟨t5,hq5,u9,u3⟩ :∃ t5,qops H.bump [⟨some (Pos.ofNat 14),.move (.t (Pos.ofNat 3)),none⟩,⟨some (Pos.ofNat 15),.move (.t (Pos.ofNat 4)),none⟩,⟨some (Pos.ofNat 16),.nilCheck (.t (Pos.ofNat 15)),none⟩,⟨some (Pos.ofNat 17),.fieldAddr 0 (.t (Pos.ofNat 16)),none⟩,
         ⟨some (Pos.ofNat 18),.load1 (.t (Pos.ofNat 17)),none⟩,⟨some (Pos.ofNat 19),.len 1 (.t (Pos.ofNat 18)),none⟩,⟨some (Pos.ofNat 20),.bin .add (.t (Pos.ofNat 14)) (.t (Pos.ofNat 19)),none⟩,⟨some (Pos.ofNat 3),.move (.t (Pos.ofNat 20)),none⟩] t4=some t5 ∧
         tget t5 (Pos.ofNat 9)=.ptr H.nx 0/\tget t5 (Pos.ofNat 3)=.int .i64 (.ofNat (n+ka)):=by
        refine z02 (.int .i64 (.ofNat n)) rfl (by simp[quiet,AOpnd.ev,r3]) ?_
        refine z02 (.ptr fb fo) rfl (by simp[quiet,AOpnd.ev,z0e,r4]) ?_
        refine z02 (.ptr fb fo) rfl (by simp[quiet,AOpnd.ev,z0e]) ?_
        refine z02 (.ptr fb fo) rfl (by simp[quiet,AOpnd.ev,z0e]) ?_
        refine z02 sv rfl (by simp[quiet,AOpnd.ev,z0e,hld,hsv]) ?_
        refine z02 (.int .i64 (.ofNat ka)) rfl (by rcases hlen with⟨b1,o1,c1,s1',rfl⟩ | ⟨rfl,rfl⟩<;>simp[quiet,AOpnd.ev,z0e]) ?_
        refine z02 (.int .i64 (.ofNat (n+ka))) rfl (by simp only[quiet,AOpnd.ev,z0e _ (show 19<2147483648 by decide) (show 14<2147483648 by decide),z0e _ (show 18<2147483648 by decide) (show 14<2147483648 by decide),z0e _ (show 17<2147483648 by decide) (show 14<2147483648 by decide),z0e _ (show 16<2147483648 by decide) (show 14<2147483648 by decide),z0e _ (show 15<2147483648 by decide) (show 14<2147483648 by decide),z0e _ (show 14<2147483648 by decide) (show 14<2147483648 by decide),z0e _ (show 19<2147483648 by decide) (show 19<2147483648 by decide),if_true];simp[z0l,kbeq,z6s];exact hwrap) ?_
        refine z02 (.int .i64 (.ofNat (n+ka))) rfl (by simp[quiet,AOpnd.ev,z0e]) ?_
        refine qnil ⟨?_,?_⟩
        .simp[z0e,r9]
        .simp[z0e]
       refine z1f hT c5 hH2 hact4 hq5 fun a5 hact5=>⟨rfl,?_⟩
       refine⟨t5,n+ka,kb,hact5,u9,u3,by rw[List.map_append];exact z2,by omega,hH2,hB2,fun y hy=>s8 y (by simp at hy ⊢;rcases hy with hy | hy<;>simp[hy]),_,_,_,_,by rw[List.map_append];exact hI2⟩
      .rintro a w' ⟨t,n,k,s1,s2,s3,s4,s5,s6,s7,s8,_⟩
       have hk0:k=0:=by simp[z42]at s4;exact s4.symm
       have a1:=s1.put (o:=n1) (d:=some (Pos.ofNat 10)) (by rw[hn1d];rfl) (v:=.tup [.bool false]) (u:=.tuple #[.bool false]) ⟨_,rfl,_,_,rfl,rfl,rfl⟩
       have a2:=a1.put (o:=n2) (d:=some (Pos.ofNat 11)) (by rw[hn2d];rfl) (v:=.bool false) (u:=.bool false) rfl
       rw[hn1d,hn2d]at a2
       obtain⟨t6,hq6,u2⟩ :∃ t6,qops H.bump [⟨some (Pos.ofNat 21),.move (.t (Pos.ofNat 3)),none⟩,⟨some (Pos.ofNat 2),.move (.t (Pos.ofNat 21)),none⟩] (tput (tput t (some (Pos.ofNat 10)) (.tup [.bool false])) (some (Pos.ofNat 11)) (.bool false))=some t6/\tget t6 (Pos.ofNat 2)=.int .i64 (.ofNat N):=by
        refine z02 (.int .i64 (.ofNat n)) rfl (by simp[quiet,AOpnd.ev,z0e,s3]) ?_
        refine z02 (.int .i64 (.ofNat n)) rfl (by simp[quiet,AOpnd.ev,z0e]) ?_
        refine qnil ?_
        have:n=N:=by omega
        simp[z0e,this]
       refine wpIn_seq (z1f hT c6 s6 a2 hq6 fun a7 hact7=>?_)
       refine wpIn_ret ⟨t6,?_,rfl,φ1,⟨hS1.ext,s6,s7⟩,hact7⟩
       simp[z0u,u2]
     .cases h
    .cases h
   .cases h
  .cases h
 .cases h
end
section
variable{P:Program}{T:Tys}{B:Nat}{φ:Emb}{H:AHeap}{w:World}{nt:Nat}{t:PT AVal}{a:Act}
theorem y3r{ts:List Trip}(h:∀ x∈ts,j4i φ x) :LRel φ ((ts.map Trip.ab).map (·.1)) ((ts.map Trip.ent).map (·.key)):=by
 induction ts with
 | nil=>rfl
 | cons x ts ih=>exact⟨_,_,rfl,(h x (by simp)).1,ih fun y hy=>h y (by simp[hy])⟩
theorem y3q{ts:List Trip}(h:∀ x∈ts,j4i φ x) :LRel φ ((ts.map Trip.ab).map (·.2)) ((ts.map Trip.ent).map (·.val)):=by
 induction ts with
 | nil=>rfl
 | cons x ts ih=>exact⟨_,_,rfl,(h x (by simp)).2,ih fun y hy=>h y (by simp[hy])⟩
theorem j1w{ts:List Trip}{es':Array MapEntry}{clock:Nat}(hp:(ts.map Trip.ent).Perm es'.toList)(h:∀ x∈ts,j4i φ x)(h1:(es'.toList.map (·.born)).Nodup)(h2:∀ e∈es'.toList,e.born<clock)(h3:(es'.toList.map (·.key)).Nodup) :
  z6n φ (ts.map Trip.ab) es' clock:=⟨⟨ts.map Trip.ent,hp,y3r h,y3q h⟩,h1,h2,h3⟩
theorem y9a(hT:TOk T P)(hH:HRel T B φ H w){kt:TypeId}(hk:z18 T kt=some .str){ts:List Trip}{es':Array MapEntry}(hp:(ts.map Trip.ent).Perm es'.toList)(htr:∀ x∈ts,j4i φ x)(hnk:(es'.toList.map (·.key)).Nodup)
  (hs:∀ x∈ts,∃ s,x.1=.str s) {x:Trip} (hx:x∈ts) :
  ∃ E1 E2,es'.toList=E1++Trip.ent x::E2/\(Instr.findKey kt (Trip.ent x).key es'.toList).run P w=.ok (some (E1.length,(Trip.ent x).val)) w:=by
 classical
 let r:MapEntry->Bool:=fun e=>decide ((Trip.ent x).key=e.key)
 have hrun:∀ e∈es'.toList,j8s P w kt (Trip.ent x).key e.key (r e):=by
  intro e he
  obtain⟨y,hy,rfl⟩:=List.mem_map.1 (hp.mem_iff.2 he)
  obtain⟨s1,hs1⟩:=hs x hx
  obtain⟨s2,hs2⟩:=hs y hy
  have:=z8m (P:=P) hT hH hk (htr x hx).1 (htr y hy).1 (r:=z14 s1 s2) (by rw[hs1,hs2];rfl)
  have hr:r (Trip.ent y)=z14 s1 s2:=by
   cases hb:z14 s1 s2 with
   | true=>exact decide_eq_true (this.2.1 hb)
   | false =>
    refine decide_eq_false fun e'=>?_
    have:=this.2.2 e'
    rw[hb]at this;cases this
  rw[hr];exact this
 have hd:∃ d,P.underlying kt=some d:=by
  unfold z18 at hk
  split at hk
  .exact⟨_,hT.und ‹_›⟩
  .exact⟨_,hT.und ‹_›⟩
  .exact⟨_,hT.und ‹_›⟩
  .exact⟨_,hT.und ‹_›⟩
  .cases hk
 obtain⟨d,hd⟩:=hd
 have hf:=j1i hrun hd
 obtain⟨E1,E2,hE⟩:=List.append_of_mem (hp.mem_iff.1 (List.mem_map.2 ⟨x,hx,rfl⟩))
 refine⟨E1,E2,hE,?_⟩
 rw[hf,hE,z51 (e:=Trip.ent x) (fun e he=>?_) (decide_eq_true rfl)]
 .simp
 .refine decide_eq_false fun e'=>?_
  rw[hE]at hnk
  simp only[List.map_append,List.map_cons]at hnk
  obtain⟨_,_,h3⟩:=List.nodup_append.1 hnk
  exact h3 e.key (List.mem_map.2 ⟨e,he,rfl⟩) (Trip.ent x).key (by simp) e'.symm
theorem z82.kill(hH:HRel T B φ H w){d:Pos}{x:Place}(hx:φ d=some x)(hd:PT.get d H.t≠none) :z82 φ (H.kill d) x.c:=by
 intro p y hp hy
 by_cases e:d=p
 .subst e;simp[AHeap.kill,PT.get_set_same]at hp
 .simp only[AHeap.kill,PT.get_set_other _ _ _ _ e]at hp
  exact hH.inj p d y x (fun e'=>e e'.symm) hp hd hy hx
theorem HRel.restore{d:Pos}{x:Place}(hH:HRel T B φ (H.kill d) w)(hx:φ d=some x)(ha:z82 φ (H.kill d) x.c){o:AObj}(ho:ORel T φ B w o x) :HRel T B φ (H.upd d o) w:=by
 have sub:∀ p,p≠d->PT.get p (H.upd d o).t=PT.get p (H.kill d).t:=fun p hp=>by
  simp only[AHeap.upd,AHeap.kill,PT.get_set_other _ _ _ _ (fun e=>hp e.symm)]
 refine⟨fun p o' y h1 h2=>?_,fun p q y z hpq hp hq hy hz=>?_,hH.low,fun p hp=>?_,hH.base,hH.glob⟩
 .by_cases e:p=d
  .subst e
   simp only[AHeap.upd,PT.get_set_same]at h1
   cases h1
   rw[hx]at h2;cases h2
   exact ho
  .rw[sub p e]at h1
   exact hH.obj p o' y h1 h2
 .by_cases e:p=d
  .subst e
   rw[hx]at hy;cases hy
   rw[sub q (fun e=>hpq e.symm)]at hq
   exact fun e=>ha q z hq hz e.symm
  .rw[sub p e]at hp
   by_cases e2:q=d
   .subst e2
    rw[hx]at hz;cases hz
    exact ha p y hp hy
   .rw[sub q e2]at hq
    exact hH.inj p q y z hpq hp hq hy hz
 .by_cases e:p=d
  .subst e;exact(hH.low _ x hx).1
  .rw[sub p e]at hp;exact hH.dom p hp
theorem IterAt.mem{rb bm since:Nat}{l1 l2:List MapEntry}{e:MapEntry}{seen:Array Nat}{c0:Nat}{es:Array MapEntry}{clock:Nat}(h:IterAt w rb bm since (l1++e::l2) seen c0 es clock) :e∈es.toList:=by
 have:=h.left.mem_iff.2 (show e∈l1++e::l2 by simp)
 rw[z1x]at this
 exact(List.mem_filter.1 this).1
theorem j75{α:Type}(E1 E2:List α)(e:α) :(E1++e::E2).eraseIdx E1.length=E1++E2:=by
 induction E1 with
 | nil=>rfl
 | cons x E1 ih=>simp[ih]
theorem IterAt.del{rb bm since:Nat}{left:List MapEntry}{seen:Array Nat}{c0:Nat}{es es2:Array MapEntry}{clock:Nat}{E1 E2:List MapEntry}{e:MapEntry}(h:IterAt w rb bm since left seen c0 es clock)(hE:es.toList=E1++e::E2)(hE2:es2.toList=E1++E2)(hs:seen.contains e.born=true)
  (hne:rb≠bm) :IterAt (setBlock w bm (.map es2 clock)) rb bm since left seen c0 es2 clock:=by
 have hlt:bm<w.heap.size:=by
  rcases Nat.lt_or_ge bm w.heap.size with h' | h'
  .exact h'
  .have:=h.map;rw[Array.getElem?_eq_none h']at this;cases this
 have hsub:es2.toList.Sublist es.toList:=by
  rw[hE,hE2];exact List.Sublist.append (List.Sublist.refl _) (List.sublist_cons_self _ _)
 refine⟨?_,?_,fun x hx=>h.old x (hsub.mem hx),h.sc,h.scl,?_,h.nodup.sublist (hsub.map _)⟩
 .show(w.heap.setIfInBounds bm _)[rb]? = _
  rw[Array.getElem?_setIfInBounds_ne (fun e=>hne e.symm)];exact h.it
 .show(w.heap.setIfInBounds bm _)[bm]? = _
  simp[hlt]
 .have h1:=h.left
  rw[z1x]at h1 ⊢
  rw[hE]at h1
  rw[hE2]
  rw[List.filter_append,List.filter_cons,hs]at h1
  rw[List.filter_append]
  simpa using h1
end
end Go.Am
