import Derived.Test.YtepncpggenncoaaGreatDoorAm12
set_option linter.unusedSimpArgs false
set_option linter.unusedVariables false
set_option maxHeartbeats 8000000
namespace Go.Am
open Go Go.RowKit
open Go.ChangeMaps (setBlock)
def z7g(h:AHeap)(v:AVal) :List AVal->Bool
 | []=>true
 | u::l=>match eqS h .ptr v u with
  | some false=>match eqS h .ptr u v with
   | some false=>z7g h v l
   | _=>false
  | _=>false
def z9t(h:AHeap) :List AVal->Bool
 | []=>true
 | v::l=>match z7g h v l with
  | true=>z9t h l
  | false=>false
def j7m(es:List (AVal×AVal)) :List (AVal×AVal):=es.map fun p=>(p.2,.bool true)
def z5p:List AVal->AHeap->ARes
 | [.ptr b o],h=>match z04 h b (Nat.add o 1)with
  | some (.map m)=>match z56 [.map m] h with
   | some (vc,h1)=>match z05 h1 b (Nat.add o 2) [vc]with
    | some h2=>match z05 h2 b (Nat.add o 3) [.snil]with
     | some h3=>match z05 (h3.new (.map [])).2 b (Nat.add o 4) [.map (h3.new (.map [])).1]with
      | some h5=>match z04 h5 b (Nat.add o 1),z04 h5 b (Nat.add o 4)with
       | some (.map m2),some (.map b3)=>match PT.get m2 h5.t,PT.get b3 h5.t,Pos.beq m2 b3 with
        | some (.map es),some (.map []),false=>match z9t h5.bump (es.map (·.2))with
         | true=>some (.tup [],h5.bump.upd b3 (.map (j7m es)))
         | false=>none
        | _,_,_=>none
       | _,_=>none
      | none=>none
     | none=>none
    | none=>none
   | none=>none
  | _=>none
 | _,_=>none
theorem j0d{h:AHeap}{v:AVal} :∀ {l:List AVal},z7g h v l=true->∀ u∈l,eqS h .ptr v u=some false/\eqS h .ptr u v=some false
 | [],_,u,hu=>by cases hu
 | x::l,e,u,hu=>by
  simp only[z7g]at e
  split at e
  .rename_i h1
   split at e
   .rename_i h2
    rcases List.mem_cons.1 hu with rfl | hu
    .exact⟨h1,h2⟩
    .exact j0d e u hu
   .cases e
  .cases e
def k2c(h:AHeap)(x y:AVal) :Prop:=eqS h .ptr x y=some false/\eqS h .ptr y x=some false
theorem j0g{h:AHeap} :∀ {l:List AVal},z9t h l=true->l.Pairwise (k2c h)
 | [],_=>List.Pairwise.nil
 | v::l,e=>by
  simp only[z9t]at e
  split at e
  .rename_i h1
   exact List.Pairwise.cons (fun u hu=>j0d h1 u hu) (j0g e)
  .cases e
theorem j3l{h:AHeap}{q:EqK}{k v:AVal} :∀ {es:List (AVal×AVal)},(∀ p∈es,eqS h q k p.1=some false)->z3i h q k v es=some (es++[(k,v)])
 | [],_=>rfl
 | (k',v')::es,h1=>by
  simp only[z3i,h1 (k',v') (by simp),j3l (fun p hp=>h1 p (List.mem_cons_of_mem _ hp)),List.cons_append]
theorem q1t{h:AHeap}{d:Pos}{es es2:List (AVal×AVal)}(hd:PT.get d h.t=some (.map es))(b:Pos) :live (h.upd d (.map es2)) b=live h b:=by
 unfold live
 by_cases e:d=b
 .subst e
  simp[AHeap.upd,PT.get_set_same,hd]
 .simp only[AHeap.upd,PT.get_set_other _ _ _ _ e]
theorem q7w{h:AHeap}{d:Pos}{es es2:List (AVal×AVal)}(hd:PT.get d h.t=some (.map es))(x y:AVal) :eqS (h.upd d (.map es2)) .ptr x y=eqS h .ptr x y:=by
 unfold eqS
 simp only[q1t hd]
section
variable{P:Program}{T:Tys}{B:Nat}{φ:Emb}{H:AHeap}{w:World}{nt:Nat}{t:PT AVal}{a:Act}{E:Env}{rec:Rec}
theorem anil{Q:PT AVal->AHeap->Prop}{ds:List ADef}(h:Q t H) :∃ t' H2,opsA E rec ds [] t H=some (.normal,⟨t',ds⟩,H2)/\Q t' H2:=⟨t,H,rfl,h⟩
theorem z6e{Q:PT AVal->AHeap->Prop}{ds:List ADef}{o:AOper}{l:List AOper}(v:AVal){H':AHeap}(hg:o.guard=none)(hnd:j9s o.op=false)(hx:z1o E rec t H o.op=some (v,H'))
  (h:∃ t' H2,opsA E rec ds l (tput t o.dst v) H'=some (.normal,⟨t',ds⟩,H2)/\Q t' H2) :∃ t' H2,opsA E rec ds (o::l) t H=some (.normal,⟨t',ds⟩,H2)/\Q t' H2:=by
 obtain⟨t',H2,h1,h2⟩:=h
 refine⟨t',H2,?_,h2⟩
 simp only[opsA,hg,z0y]
 split
 .rename_i f args he;rw[he]at hnd;cases hnd
 .rw[hx]
  simp only[z3l]
  exact h1
theorem z6f(t:PT AVal)(v:AVal) :tput t none v=t:=rfl
theorem z7x{x y:AOpnd}{b:Pos}{o:Nat}{v:AVal}{H':AHeap}(hx:x.ev t=.ptr b o)(hy:y.ev t=v)(hv:z1w v=some [v])(h:z05 H b o [v]=some H') :z1o E rec t H (.store 1 x y)=some (.undef,H'):=by
 simp only[z1o,z01,hx,hy,hv,List.length_cons,List.length_nil,h]
theorem IterAt.set{rb bm since:Nat}{left:List MapEntry}{seen:Array Nat}{c0:Nat}{es:Array MapEntry}{clock:Nat}(h:IterAt w rb bm since left seen c0 es clock){p:Nat}(h1:p≠rb)(h2:p≠bm)(ob:Obj) :IterAt (setBlock w p ob) rb bm since left seen c0 es clock:=by
 refine⟨?_,?_,h.old,h.sc,h.scl,h.left,h.nodup⟩
 .show(w.heap.setIfInBounds p ob)[rb]? = _
  rw[Array.getElem?_setIfInBounds_ne h1];exact h.it
 .show(w.heap.setIfInBounds p ob)[bm]? = _
  rw[Array.getElem?_setIfInBounds_ne h2];exact h.map
theorem j6u(hT:TOk2 T P){f:FuncId}{fn:Func}(hf:P.funcs[f]? = some fn)(hname:(fn.name == "runtime.NumGoroutine")=false){fc:FuncId}(hfc:fc<2^31)(hclone:z2k P T B fc z56){i0 i1 i2 i3 i4 i5 i6 b0 b1:Nat}{q0 q1 q2 q3 oR n1 n2 oE e1 e2 m0 m1 m2 m3 m4 oM:Oper}{ops0 ops1 ops2:Array Oper}
  (hb:fn.body=some (.seq (.region i0 ops0 false) (.seq (.region i1 ops1 false) (.seq (.region i2 ops2 false) (.seq (.region i3 #[q0,q1,q2,q3,oR] false)
   (.block b0 (.loop (.seq (.region i4 #[n1,n2] false) (.seq (.cond (.tmp 25) .skip (.exit b0)) (.block b1 (.seq (.region i5 #[oE,e1,e2] false) (.region i6 #[m0,m1,m2,m3,m4,oM] false))))))))))))
  (hnt:fn.ntmps=33) (hres:z2q T fn.results.toList=some [])
  (c0:z0n T 33 ops0.toList ops0.toList=some [⟨some (Pos.ofNat 4),.move (.t (Pos.ofNat 0)),none⟩,⟨some (Pos.ofNat 5),.move (.t (Pos.ofNat 0)),none⟩,⟨some (Pos.ofNat 6),.nilCheck (.t (Pos.ofNat 5)),none⟩,⟨some (Pos.ofNat 7),.fieldAddr 1 (.t (Pos.ofNat 6)),none⟩,
   ⟨some (Pos.ofNat 8),.load1 (.t (Pos.ofNat 7)),none⟩,⟨some (Pos.ofNat 9),.callF fc [.t (Pos.ofNat 8)],none⟩,⟨some (Pos.ofNat 10),.nilCheck (.t (Pos.ofNat 4)),none⟩,⟨some (Pos.ofNat 11),.fieldAddr 2 (.t (Pos.ofNat 10)),none⟩,⟨none,.store 1 (.t (Pos.ofNat 11)) (.t (Pos.ofNat 9)),none⟩])
  (c1:z0n T 33 ops1.toList ops1.toList=some [⟨some (Pos.ofNat 12),.move (.t (Pos.ofNat 0)),none⟩,⟨some (Pos.ofNat 13),.nilCheck (.t (Pos.ofNat 12)),none⟩,⟨some (Pos.ofNat 14),.fieldAddr 3 (.t (Pos.ofNat 13)),none⟩,⟨none,.store 1 (.t (Pos.ofNat 14)) (.c .snil),none⟩])
  (c2:z0n T 33 ops2.toList ops2.toList=some [⟨some (Pos.ofNat 15),.move (.t (Pos.ofNat 0)),none⟩,⟨some (Pos.ofNat 16),.mkMap,none⟩,⟨some (Pos.ofNat 17),.nilCheck (.t (Pos.ofNat 15)),none⟩,⟨some (Pos.ofNat 18),.fieldAddr 4 (.t (Pos.ofNat 17)),none⟩,⟨none,.store 1 (.t (Pos.ofNat 18)) (.t (Pos.ofNat 16)),none⟩])
  (c3:z0n T 33 [q0,q1,q2,q3,oR] [q0,q1,q2,q3]=some [⟨some (Pos.ofNat 19),.move (.t (Pos.ofNat 0)),none⟩,⟨some (Pos.ofNat 20),.nilCheck (.t (Pos.ofNat 19)),none⟩,⟨some (Pos.ofNat 21),.fieldAddr 1 (.t (Pos.ofNat 20)),none⟩,⟨some (Pos.ofNat 22),.load1 (.t (Pos.ofNat 21)),none⟩])
  {tm kt et:TypeId} (hR:oR.op=.range tm (.tmp 22)) (hRd:oR.dst=some 23) (hRg:oR.guard=none) (hRt:P.underlying tm=some (.map kt et))
  (hn1:n1.op=.next (.tmp 23) false) (hn1d:n1.dst=some 24) (hn1g:n1.guard=none) (hn2:n2.op=.extract (.tmp 24) 0) (hn2d:n2.dst=some 25) (hn2g:n2.guard=none)
  (hE:oE.op=.entry (.tmp 23)) (hEd:oE.dst=some 26) (hEg:oE.guard=none)
  (c5:z0n T 33 [oE,e1,e2] [e1,e2]=some [⟨some (Pos.ofNat 27),.extract (.t (Pos.ofNat 26)) 1,none⟩,⟨some (Pos.ofNat 3),.move (.t (Pos.ofNat 27)),none⟩])
  (c6:z0n T 33 [m0,m1,m2,m3,m4,oM] [m0,m1,m2,m3,m4]=some [⟨some (Pos.ofNat 28),.move (.t (Pos.ofNat 0)),none⟩,⟨some (Pos.ofNat 29),.nilCheck (.t (Pos.ofNat 28)),none⟩,⟨some (Pos.ofNat 30),.fieldAddr 4 (.t (Pos.ofNat 29)),none⟩,⟨some (Pos.ofNat 31),.load1 (.t (Pos.ofNat 30)),none⟩,⟨some (Pos.ofNat 32),.move (.t (Pos.ofNat 3)),none⟩])
  {th kh eh:TypeId} (hM:oM.op=.mapUpdate th (.tmp 31) (.tmp 32) (.const (.bool true))) (hMd:oM.dst=none) (hMg:oM.guard=none) (hMt:T.und th=some (.map kh eh)) (hMk:z18 T kh=some .ptr) :z2k P T B f z5p:=by
 intro φ H w args args' v H' hH hl h
 unfold z5p at h
 split at h
 rotate_left
 .cases h
 rename_i b o
 split at h
 rotate_left
 .cases h
 rename_i m hm
 split at h
 rotate_left
 .cases h
 rename_i vc h1 hcl
 split at h
 rotate_left
 .cases h
 rename_i h2 hs2
 split at h
 rotate_left
 .cases h
 rename_i h3 hs3
 split at h
 rotate_left
 .cases h
 rename_i h5 hs5
 split at h
 rotate_left
 .cases h
 rename_i mq b3 hm2 hb3
 split at h
 rotate_left
 .cases h
 rename_i es hes hb3e hne
 split at h
 rotate_left
 .cases h
 rename_i hdiff
 cases h
 have hmb:mq≠b3:=fun e=>by rw[Pos.beq_eq.2 e]at hne;cases hne
 have hEnv:=EnvOk.one hfc hclone
 refine .inl (z3g (l:=[]) (ex:=.normal) hT hf hname hb hres (.inl rfl) ?_)
 rw[hnt]
 have hact:ActRel φ 33 ⟨tput .l (some (Pos.ofNat 0)) (.ptr b o),[]⟩ { tmps:=args'++Array.replicate (33-args'.size) undef,defers:=[] }:=z5k rfl hl (by decide)
 generalize ({ tmps:=args'++Array.replicate (33-args'.size) undef,defers:=[] } :Act)=a at hact ⊢
 have hscal:z1g vc=true:=by
  simp only[z56]at hcl
  split at hcl
  .simp only[Option.some.injEq,Prod.mk.injEq]at hcl
   obtain⟨rfl,_⟩:=hcl;rfl
  .cases hcl
 have hvco:z1w vc=some [vc]:=by cases vc<;>first | rfl | (cases hscal)
 obtain⟨t0,H0,hq0,r0,rfl⟩ :∃ t' H2,opsA ⟨.l,PT.set (Pos.ofNat fc) (some z56) .l,.l⟩ (fun _ _ _ _=>none) [] [⟨some (Pos.ofNat 4),.move (.t (Pos.ofNat 0)),none⟩,⟨some (Pos.ofNat 5),.move (.t (Pos.ofNat 0)),none⟩,⟨some (Pos.ofNat 6),.nilCheck (.t (Pos.ofNat 5)),none⟩,⟨some (Pos.ofNat 7),.fieldAddr 1 (.t (Pos.ofNat 6)),none⟩,
   ⟨some (Pos.ofNat 8),.load1 (.t (Pos.ofNat 7)),none⟩,⟨some (Pos.ofNat 9),.callF fc [.t (Pos.ofNat 8)],none⟩,⟨some (Pos.ofNat 10),.nilCheck (.t (Pos.ofNat 4)),none⟩,⟨some (Pos.ofNat 11),.fieldAddr 2 (.t (Pos.ofNat 10)),none⟩,⟨none,.store 1 (.t (Pos.ofNat 11)) (.t (Pos.ofNat 9)),none⟩]
   (tput .l (some (Pos.ofNat 0)) (.ptr b o)) H=some (.normal,⟨t',[]⟩,H2)/\tget t' (Pos.ofNat 0)=.ptr b o/\H2=h2:=by
  refine z6e (.ptr b o) (H':=H) rfl rfl (by simp[z1o,z01,quiet,AOpnd.ev,z0e]) ?_
  refine z6e (.ptr b o) (H':=H) rfl rfl (by simp[z1o,z01,quiet,AOpnd.ev,z0e]) ?_
  refine z6e (.ptr b o) (H':=H) rfl rfl (by simp[z1o,z01,quiet,AOpnd.ev,z0e]) ?_
  refine z6e (.ptr b (Nat.add o 1)) (H':=H) rfl rfl (by simp[z1o,z01,quiet,AOpnd.ev,z0e]) ?_
  refine z6e (.map m) (H':=H) rfl rfl (by simp only[z1o,z01,quiet,AOpnd.ev,z0e _ (show 7<2147483648 by decide) (show 7<2147483648 by decide),if_true,hm]) ?_
  refine z6e vc (H':=h1) rfl rfl ?_ ?_
  .have hlt:Nat.blt fc 2147483648=true:=by rw[Nat.blt_eq];omega
   simp only[z1o,z9p,evs,AOpnd.ev,z0e _ (show 8<2147483648 by decide) (show 8<2147483648 by decide),if_true,hlt,PT.get_set_same,hcl]
  refine z6e (.ptr b o) (H':=h1) rfl rfl (by simp[z1o,z01,quiet,AOpnd.ev,z0e]) ?_
  refine z6e (.ptr b (Nat.add o 2)) (H':=h1) rfl rfl (by simp[z1o,z01,quiet,AOpnd.ev,z0e]) ?_
  refine z6e .undef (H':=h2) rfl rfl ?_ (anil ⟨?_,rfl⟩)
  .exact z7x (b:=b) (o:=Nat.add o 2) (v:=vc) (by simp[AOpnd.ev,z0e]) (by simp[AOpnd.ev,z0e]) hvco hs2
  .simp[z6f,z0e]
 refine wpIn_seq (wpIn_mono (z8d (P:=P) hT hEnv z1p.none c0 (r:=none) (fun h=>by cases h) hH hact hq0) fun e' a1 w1 hp=>?_)
 obtain⟨rfl,φ1,hS1,hact⟩:=hp
 simp only[z6y,Exit.then]
 obtain⟨t1,H1,hq1,r1,rfl⟩ :∃ t' H2,opsA ⟨.l,PT.set (Pos.ofNat fc) (some z56) .l,.l⟩ (fun _ _ _ _=>none) [] [⟨some (Pos.ofNat 12),.move (.t (Pos.ofNat 0)),none⟩,⟨some (Pos.ofNat 13),.nilCheck (.t (Pos.ofNat 12)),none⟩,⟨some (Pos.ofNat 14),.fieldAddr 3 (.t (Pos.ofNat 13)),none⟩,⟨none,.store 1 (.t (Pos.ofNat 14)) (.c .snil),none⟩]
   t0 H0=some (.normal,⟨t',[]⟩,H2)/\tget t' (Pos.ofNat 0)=.ptr b o/\H2=h3:=by
  refine z6e (.ptr b o) (H':=H0) rfl rfl (by simp[z1o,z01,quiet,AOpnd.ev,r0]) ?_
  refine z6e (.ptr b o) (H':=H0) rfl rfl (by simp[z1o,z01,quiet,AOpnd.ev,z0e]) ?_
  refine z6e (.ptr b (Nat.add o 3)) (H':=H0) rfl rfl (by simp[z1o,z01,quiet,AOpnd.ev,z0e]) ?_
  refine z6e .undef (H':=h3) rfl rfl ?_ (anil ⟨?_,rfl⟩)
  .exact z7x (b:=b) (o:=Nat.add o 3) (v:=.snil) (by simp[AOpnd.ev,z0e]) rfl rfl hs3
  .simp[z6f,z0e,r0]
 refine wpIn_seq (wpIn_mono (z8d (P:=P) hT hEnv z1p.none c1 (r:=none) (fun h=>by cases h) hS1.rel hact hq1) fun e' a2 w2 hp=>?_)
 obtain⟨rfl,φ2,hS2,hact⟩:=hp
 simp only[z6y,Exit.then]
 obtain⟨t2,H2,hq2,r2,rfl⟩ :∃ t' H2,opsA ⟨.l,PT.set (Pos.ofNat fc) (some z56) .l,.l⟩ (fun _ _ _ _=>none) [] [⟨some (Pos.ofNat 15),.move (.t (Pos.ofNat 0)),none⟩,⟨some (Pos.ofNat 16),.mkMap,none⟩,⟨some (Pos.ofNat 17),.nilCheck (.t (Pos.ofNat 15)),none⟩,⟨some (Pos.ofNat 18),.fieldAddr 4 (.t (Pos.ofNat 17)),none⟩,⟨none,.store 1 (.t (Pos.ofNat 18)) (.t (Pos.ofNat 16)),none⟩]
   t1 H1=some (.normal,⟨t',[]⟩,H2)/\tget t' (Pos.ofNat 0)=.ptr b o/\H2=h5:=by
  refine z6e (.ptr b o) (H':=H1) rfl rfl (by simp[z1o,z01,quiet,AOpnd.ev,r1]) ?_
  refine z6e (.map (H1.new (.map [])).1) (H':=(H1.new (.map [])).2) rfl rfl rfl ?_
  refine z6e (.ptr b o) (H':=(H1.new (.map [])).2) rfl rfl (by simp[z1o,z01,quiet,AOpnd.ev,z0e]) ?_
  refine z6e (.ptr b (Nat.add o 4)) (H':=(H1.new (.map [])).2) rfl rfl (by simp[z1o,z01,quiet,AOpnd.ev,z0e]) ?_
  refine z6e .undef (H':=h5) rfl rfl ?_ (anil ⟨?_,rfl⟩)
  .exact z7x (b:=b) (o:=Nat.add o 4) (v:=.map (H1.new (.map [])).1) (by simp[AOpnd.ev,z0e]) (by simp[AOpnd.ev,z0e]) rfl hs5
  .simp[z6f,z0e,r1]
 refine wpIn_seq (wpIn_mono (z8d (P:=P) hT hEnv z1p.none c2 (r:=none) (fun h=>by cases h) hS2.rel hact hq2) fun e' a3 w3 hp=>?_)
 obtain⟨rfl,φ3,hS3,hact⟩:=hp
 simp only[z6y,Exit.then]
 have hS:=hS1.trans (hS2.trans hS3)
 clear hS1 hS2 hq0 hq1 hq2 hs2 hs3 hs5 hcl
 have hH5:=hS3.rel
 clear hS3
 refine wpIn_seq (z00 ?_)
 show wpListIn _ _ _ #[q0,q1,q2,q3,oR] _ ([q0,q1,q2,q3]++[oR]) a3 w3
 obtain⟨t3,hq3,g0,g22⟩ :∃ t3,qops H2 [⟨some (Pos.ofNat 19),.move (.t (Pos.ofNat 0)),none⟩,⟨some (Pos.ofNat 20),.nilCheck (.t (Pos.ofNat 19)),none⟩,⟨some (Pos.ofNat 21),.fieldAddr 1 (.t (Pos.ofNat 20)),none⟩,⟨some (Pos.ofNat 22),.load1 (.t (Pos.ofNat 21)),none⟩] t2=some t3 ∧
   tget t3 (Pos.ofNat 0)=.ptr b o/\tget t3 (Pos.ofNat 22)=.map mq:=by
  refine z02 (.ptr b o) rfl (by simp[quiet,AOpnd.ev,r2]) ?_
  refine z02 (.ptr b o) rfl (by simp[quiet,AOpnd.ev,z0e]) ?_
  refine z02 (.ptr b (Nat.add o 1)) rfl (by simp[quiet,AOpnd.ev,z0e]) ?_
  refine z02 (.map mq) rfl (by simp only[quiet,AOpnd.ev,z0e _ (show 21<2147483648 by decide) (show 21<2147483648 by decide),if_true,hm2]) ?_
  refine qnil ⟨?_,?_⟩<;>simp[z0e,r2]
 refine z3r hT c3 hH5 hact hq3 fun a4 hact4=>?_
 have hv22:=hact4.t.2.2 22 (by decide)
 rw[g22]at hv22
 obtain⟨x,hx,hv22⟩:=hv22
 obtain⟨es',clock,k1,⟨⟨l,pl,pk,pv⟩,nd1,nlt,nd2⟩,hBx⟩:=hH5.obj mq _ x hes hx
 have hrun:=run_range_map (P:=P) w3 tm kt et x.c es' clock hRt k1
 have hrun2:(execOp a4.eval oR).run P w3=.ok (.value (.pointer (some ⟨w3.heap.size,0,none⟩))) (w3.alloc (.mapIter (some x.c) clock #[] clock)):=by
  have:a4.eval (.tmp 22)=.map (some x.c):=hv22
  simp only[execOp,hR,this,hrun,Sem.run_bind,Result.andThen_ok,Sem.run_pure]
 refine z35 hRg (by rw[hR];intro c hc;cases hc) hrun2 ?_
 rw[hRd]
 simp only[wpListIn,Exit.then]
 have hSb:=Sim.bump hH5 (.mapIter (some x.c) clock #[] clock) 0
 have hap:=z82.bump hH5 0
 have hxlt:x.c<w3.heap.size:=(hH5.low mq x hx).2
 have hits:IterAt (w3.alloc (.mapIter (some x.c) clock #[] clock)) w3.heap.size x.c clock l #[] clock es' clock:=by
  refine⟨heap_alloc_new _ _,?_,nlt,lr,lr,?_,nd1⟩
  .rw[heap_alloc_old _ _ hxlt];exact k1
  .rw[z1x]
   have:es'.toList.filter (fun e=>!(#[] :Array Nat).contains e.born)=es'.toList:=List.filter_eq_self.2 fun x _=>by simp
   rw[this]
   exact pl.symm
 have hact5:=(hact4.mono hSb.ext.le).put (o:=oR) (d:=some (Pos.ofNat 23)) (by rw[hRd];rfl) (v:=.ptr H2.nx 0) (u:=.pointer (some ⟨w3.heap.size,0,none⟩)) ⟨_,Emb.put_same _ _ _,rfl⟩
 rw[hRd]at hact5
 obtain⟨ts,ht1,ht2,ht3⟩:=j4k (LRel.mono hSb.ext.le _ _ pk) (LRel.mono hSb.ext.le _ _ pv)
 have hφr:(φ3.put H2.nx ⟨w3.heap.size,0,0⟩) H2.nx=some ⟨w3.heap.size,0,0⟩:=Emb.put_same _ _ _
 have hxφ:(φ3.put H2.nx ⟨w3.heap.size,0,0⟩) mq=some x:=hSb.ext.le _ _ hx
 have hbase:B<=w3.heap.size:=hH5.base
 generalize φ3.put H2.nx ⟨w3.heap.size,0,0⟩=φ4 at hSb hap hact5 ht3 hφr hxφ
 have hb3b:PT.get b3 H2.bump.t=some (.map []):=hb3e
 have hm2b:PT.get mq H2.bump.t=some (.map es):=hes
 let mk:Trip->AVal×AVal:=fun y=>(y.2.1,.bool true)
 have hsame:∀ p es1,PT.get p (H2.bump.upd b3 (.map es1)).t≠none->PT.get p H2.bump.t≠none:=by
  intro p es1 hp
  by_cases e:b3=p
  .subst e;rw[hb3b];simp
  .simpa only[AHeap.upd,PT.get_set_other _ _ _ _ e]using hp
 have hapU:∀ es1,z82 φ4 (H2.bump.upd b3 (.map es1)) w3.heap.size:=fun es1 p y hp hy=>hap p y (hsame p es1 hp) hy
 have hdp:(ts.map (·.2.1)).Pairwise (k2c H2.bump):=by
  have:=j0g hdiff
  rw[<-ht2,List.map_map]at this
  exact this
 let S:List Trip->Act->World->Prop:=fun left a w'=>∃ t kept,ActRel φ4 33 ⟨t,[]⟩ a/\tget t (Pos.ofNat 23)=.ptr H2.nx 0/\tget t (Pos.ofNat 0)=.ptr b o/\(kept++left).Perm ts ∧
  HRel T B φ4 (H2.bump.upd b3 (.map (kept.map mk))) w'/\Below B w w'/\∃ seen c0 es clk,IterAt w' w3.heap.size x.c clock (left.map Trip.ent) seen c0 es clk
 have hupd0:H2.bump.upd b3 (.map [])=H2.bump.upd b3 (.map (([] :List Trip).map mk)):=rfl
 have hS0:S ts (a4.put (some 23) (.pointer (some ⟨w3.heap.size,0,none⟩))) (w3.alloc (.mapIter (some x.c) clock #[] clock)):=by
  refine⟨_,[],hact5,by simp[z0e],by simp[z0e,g0],List.Perm.refl _,?_,hS.below.trans hSb.below,#[],clock,es',clock,by rw[ht1];exact hits⟩
  rw[<-hupd0]
  have hR:=hSb.rel
  refine⟨fun p o' y h1 h2=>?_,fun p q y z hpq hp hq=>hR.inj p q y z hpq (hsame p _ hp) (hsame q _ hq),hR.low,fun p hp=>hR.dom p (hsame p _ hp),hR.base,hR.glob⟩
  by_cases e:b3=p
  .subst e
   simp only[AHeap.upd,PT.get_set_same]at h1
   cases h1
   exact hR.obj _ _ y hb3b h2
  .simp only[AHeap.upd,PT.get_set_other _ _ _ _ e]at h1
   exact hR.obj p o' y h1 h2
 refine j9k (S:=S) (ent:=Trip.ent) (rb:=w3.heap.size) (bm:=x.c) (since:=clock) hn1 hn1d hn1g hn2 hn2d hn2g ?_ ?_ ?_ hS0
 .rintro left a w' ⟨t,kept,s1,s2,_,_,_,_,s9⟩
  have hv:=s1.t.2.2 23 (by decide)
  rw[s2]at hv
  obtain⟨y,hy,hv⟩:=hv
  rw[hφr]at hy
  cases hy
  exact⟨hv,by rw[s1.t.1];decide,by rw[s1.t.1];decide,s9⟩
 .rintro l1 x1 l2 a w' w1 seen c0 es3 clk ⟨t,kept,s1,s2,s3,s4,s5,s6,_⟩ hI hw1
  rw[List.map_append,List.map_cons]at hI
  have hmem:=hI.mem
  have hI2:=hI.step hw1
  have hH2:=s5.setIter (hapU _) hw1 (.mapIter (some x.c) clock (seen.push (Trip.ent x1).born) clk)
  have hB2:=Below.setIter s6 hbase hw1 (.mapIter (some x.c) clock (seen.push (Trip.ent x1).born) clk)
  have hxt:x1∈ts:=s4.mem_iff.1 (by simp)
  obtain⟨o1k,o1v⟩:=ht3 x1 hxt
  have hent:=run_entry_at (P:=P) (setBlock w1 w3.heap.size (.mapIter (some x.c) clock (seen.push (Trip.ent x1).born) clk)) w3.heap.size x.c clock seen es3 clk (Trip.ent x1) hI2.it hI2.map hmem hI2.nodup
  generalize hwn:setBlock w1 w3.heap.size (.mapIter (some x.c) clock (seen.push (Trip.ent x1).born) clk)=wn at hI2 hH2 hB2 hent ⊢
  have a1:=s1.put (o:=n1) (d:=some (Pos.ofNat 24)) (by rw[hn1d];rfl) (v:=.tup [.bool true,x1.1,x1.2.1]) (u:=.tuple #[.bool true,(Trip.ent x1).key,(Trip.ent x1).val]) ⟨_,rfl,_,_,rfl,rfl,_,_,rfl,o1k,_,_,rfl,o1v,rfl⟩
  have a2:=a1.put (o:=n2) (d:=some (Pos.ofNat 25)) (by rw[hn2d];rfl) (v:=.bool true) (u:=.bool true) rfl
  rw[hn1d,hn2d]at a2
  generalize (a.put (some 24) (.tuple #[.bool true,(Trip.ent x1).key,(Trip.ent x1).val])).put (some 25) (.bool true)=ar at a2 ⊢
  refine wpIn_seq (z00 ?_)
  show wpListIn _ _ _ #[oE,e1,e2] _ (oE::([e1,e2]++[])) ar wn
  have hv7:=a2.t.2.2 23 (by decide)
  rw[z0e _ (by decide) (by decide),z0e _ (by decide) (by decide),s2]at hv7
  simp at hv7
  obtain⟨y,hy,hv7⟩:=hv7
  rw[hφr]at hy
  cases hy
  have hrunE:(execOp ar.eval oE).run P wn=.ok (.value (.tuple #[(Trip.ent x1).key,(Trip.ent x1).val])) wn:=by
   have:ar.eval (.tmp 23)=.pointer (some ⟨w3.heap.size,0,none⟩):=by rw[show ar.eval (.tmp 23)=ar.tmps.getD 23 undef from rfl];simpa using hv7
   simp only[execOp,hE,this,hent,Sem.run_bind,Result.andThen_ok,Sem.run_pure]
  refine z35 hEg (by rw[hE];intro c hc;cases hc) hrunE ?_
  have a3:=a2.put (o:=oE) (d:=some (Pos.ofNat 26)) (by rw[hEd];rfl) (v:=.tup [x1.1,x1.2.1]) (u:=.tuple #[(Trip.ent x1).key,(Trip.ent x1).val]) ⟨_,rfl,_,_,rfl,o1k,_,_,rfl,o1v,rfl⟩
  obtain⟨t4,hq4,z23,z0,z3⟩ :∃ t4,qops (H2.bump.upd b3 (.map (kept.map mk))) [⟨some (Pos.ofNat 27),.extract (.t (Pos.ofNat 26)) 1,none⟩,⟨some (Pos.ofNat 3),.move (.t (Pos.ofNat 27)),none⟩]
    (tput (tput (tput t (some (Pos.ofNat 24)) (.tup [.bool true,x1.1,x1.2.1])) (some (Pos.ofNat 25)) (.bool true)) (some (Pos.ofNat 26)) (.tup [x1.1,x1.2.1]))=some t4 ∧
    tget t4 (Pos.ofNat 23)=.ptr H2.nx 0/\tget t4 (Pos.ofNat 0)=.ptr b o/\tget t4 (Pos.ofNat 3)=x1.2.1:=by
   refine z02 x1.2.1 rfl (by simp[quiet,AOpnd.ev,z0e,lget]) ?_
   refine z02 x1.2.1 rfl (by simp[quiet,AOpnd.ev,z0e]) ?_
   refine qnil ⟨?_,?_,?_⟩<;>simp[z0e,s2,s3]
  refine z3r hT c5 hH2 a3 hq4 fun a4 hact4=>?_
  simp only[wpListIn,Exit.then]
  refine z00 ?_
  show wpListIn _ _ _ #[m0,m1,m2,m3,m4,oM] _ ([m0,m1,m2,m3,m4]++[oM]) a4 wn
  have hld:z04 (H2.bump.upd b3 (.map (kept.map mk))) b (Nat.add o 4)=some (.map b3):=by
   rw[<-hb3]
   have hbn:b3≠b:=fun e=>by rw[e]at hb3e;unfold z04 at hb3;rw[hb3e]at hb3;cases hb3
   unfold z04
   simp only[AHeap.upd,PT.get_set_other _ _ _ _ hbn]
   rfl
  obtain⟨t5,hq5,y23,y0,y31,y32⟩ :∃ t5,qops (H2.bump.upd b3 (.map (kept.map mk))) [⟨some (Pos.ofNat 28),.move (.t (Pos.ofNat 0)),none⟩,⟨some (Pos.ofNat 29),.nilCheck (.t (Pos.ofNat 28)),none⟩,⟨some (Pos.ofNat 30),.fieldAddr 4 (.t (Pos.ofNat 29)),none⟩,⟨some (Pos.ofNat 31),.load1 (.t (Pos.ofNat 30)),none⟩,⟨some (Pos.ofNat 32),.move (.t (Pos.ofNat 3)),none⟩] t4=some t5 ∧
    tget t5 (Pos.ofNat 23)=.ptr H2.nx 0/\tget t5 (Pos.ofNat 0)=.ptr b o/\tget t5 (Pos.ofNat 31)=.map b3/\tget t5 (Pos.ofNat 32)=x1.2.1:=by
   refine z02 (.ptr b o) rfl (by simp[quiet,AOpnd.ev,z0]) ?_
   refine z02 (.ptr b o) rfl (by simp[quiet,AOpnd.ev,z0e]) ?_
   refine z02 (.ptr b (Nat.add o 4)) rfl (by simp[quiet,AOpnd.ev,z0e]) ?_
   refine z02 (.map b3) rfl (by simp only[quiet,AOpnd.ev,z0e _ (show 30<2147483648 by decide) (show 30<2147483648 by decide),if_true,hld]) ?_
   refine z02 x1.2.1 rfl (by simp[quiet,AOpnd.ev,z0e,z3]) ?_
   refine qnil ⟨?_,?_,?_,?_⟩<;>simp[z0e,z23,z0]
  refine z3r hT c6 hH2 hact4 hq5 fun a5 hact5=>?_
  have hgU:PT.get b3 (H2.bump.upd b3 (.map (kept.map mk))).t=some (.map (kept.map mk)):=by simp[AHeap.upd,PT.get_set_same]
  have hpm:(x1::(kept++(l1++l2))).Perm ts:=by
   refine List.Perm.trans ?_ s4
   rw[<-List.append_assoc,<-List.append_assoc];exact List.perm_middle.symm
  have hput:z3i (H2.bump.upd b3 (.map (kept.map mk))) .ptr x1.2.1 (.bool true) (kept.map mk)=some (kept.map mk++[(x1.2.1,.bool true)]):=by
   refine j3l fun p hp=>?_
   obtain⟨y,hy,rfl⟩:=List.mem_map.1 hp
   rw[q7w hb3b]
   have hdp2:=((hpm.map (·.2.1)).pairwise_iff (fun h=>⟨h.2,h.1⟩)).2 hdp
   simp only[List.map_cons]at hdp2
   exact((List.pairwise_cons.1 hdp2).1 y.2.1 (List.mem_map.2 ⟨y,by simp[hy],rfl⟩)).1
  have e31:(AOpnd.t (Pos.ofNat 31)).ev t5=.map b3:=y31
  have e32:(AOpnd.t (Pos.ofNat 32)).ev t5=x1.2.1:=y32
  obtain⟨p,ob,hp,hrunM,hSM⟩:=z9m (P:=P) (B:=B) hT.toTOk hH2 hact5.t (o:=oM) hM (am:=.t (Pos.ofNat 31)) (ak:=.t (Pos.ofNat 32)) (ax:=.c (.bool true)) rfl rfl rfl hMt hMk e31 hgU rfl (es':=kept.map mk++[(x1.2.1,.bool true)]) (by rw[e32];exact hput)
  refine wpListIn_plain hMg fun K hK=>⟨j0z,?_⟩
  rw[Oper.semAt_eq _ _ _ (by rw[hM];intro c hc;cases hc),hrunM]
  refine hK _ _ ?_
  simp only[wpListIn]
  rw[hMd]
  have hgm:PT.get mq (H2.bump.upd b3 (.map (kept.map mk))).t≠none:=by
   simp only[AHeap.upd,PT.get_set_other _ _ _ _ (fun e=>hmb e.symm),hm2b];simp
  have hpx:p.c≠x.c:=hH2.inj b3 mq p x (fun e=>hmb e.symm) (by rw[hgU];simp) hgm hp hxφ
  have hpr:p.c≠w3.heap.size:=hapU _ b3 p (by rw[hgU];simp) hp
  refine⟨by first | rfl | trivial,t5,kept++[x1],hact5,y23,y0,?_,?_,hB2.trans hSM.below,_,_,_,_,by rw[List.map_append];exact hI2.set hpr hpx ob⟩
  .refine List.Perm.trans ?_ s4
   rw[List.append_assoc]
   exact List.Perm.append_left _ (by simpa using List.perm_middle.symm)
  .have:=hSM.rel
   have he:(H2.bump.upd b3 (.map (kept.map mk))).upd b3 (.map (kept.map mk++[(x1.2.1,.bool true)]))=H2.bump.upd b3 (.map ((kept++[x1]).map mk)):=by
    simp only[AHeap.upd,PT.set_set,List.map_append,List.map_cons,List.map_nil]
    rfl
   rw[he]at this
   exact this
 .rintro a w' ⟨t,kept,s1,s2,s3,s4,s5,s6,_⟩
  have a1:=s1.put (o:=n1) (d:=some (Pos.ofNat 24)) (by rw[hn1d];rfl) (v:=.tup [.bool false]) (u:=.tuple #[.bool false]) ⟨_,rfl,_,_,rfl,rfl,rfl⟩
  have a2:=a1.put (o:=n2) (d:=some (Pos.ofNat 25)) (by rw[hn2d];rfl) (v:=.bool false) (u:=.bool false) rfl
  rw[hn1d,hn2d]at a2
  simp only[List.append_nil]at s4
  obtain⟨p,hp⟩ :∃ p,φ4 b3=some p:=by
   have hv:=s1.t.2.2 23 (by decide)
   have h0:=s1.t.2.2 0 (by decide)
   rw[s3]at h0
   obtain⟨y,hy,_⟩:=h0
   obtain⟨u,_,hu⟩:=j5g hSb.rel hy (o:=Nat.add o 4) (v:=.map b3) hb3
   obtain⟨z,hz,_⟩:=hu
   exact⟨z,hz⟩
  have hfin:=s5.updPerm hp ((s4.map mk))
  have hmk:ts.map mk=j7m es:=by
   rw[<-ht2]
   simp[j7m,mk,Trip.ab,Function.comp_def]
  rw[hmk]at hfin
  refine⟨_,by first | rfl | trivial,rfl,φ4,⟨hS.ext.trans (hSb.ext.trans ⟨Emb.le_refl _,fun q hq hn=>⟨hn,?_⟩,lr⟩),hfin,s6⟩,a2⟩
  have:b3≠q:=fun e=>by rw[e]at hp;rw[hp]at hn;cases hn
  simp only[AHeap.upd,PT.get_set_other _ _ _ _ this]
end
end Go.Am
