import Derived.Test.YtepncpggenncoaaGreatDoorAm14
import Derived.Laws.AppendOwn
import Derived.KernelRfl
import Derived.Lib.LaidTab
import Derived.ChangeSame
import Derived.OpenShut
import Derived.ChangeArms
import Derived.Lib.ItoaLen
set_option linter.unusedSimpArgs false
set_option linter.unusedVariables false
set_option maxHeartbeats 8000000
section
namespace Go.Am
open Go Go.RowKit
def anys:Nat->List AVal
 | 0=>[]
 | n+1=>.any::anys n
def q0u:List AVal->AHeap->ARes
 | [s,.int .i64 (.ofNat n)],h=>match Nat.ble n 1000000 with
  | true=>match s with
   | .snil=>match n with
    | 0=>some (.snil,h)
    | m+1=>match h.new (.cells (anys (m+1)) true false)with
     | (b,h')=>some (.sl b 0 0 (Nat.succ m) 1,h')
   | .sl b o len cap 1=>match Nat.ble len 1000000,PT.get b h.t,z0t h b o len with
    | true,some (.cells _ _ false),some l=>match Nat.ble (Nat.add len n) cap with
     | true=>some (.sl b o len cap 1,h)
     | false=>match (h.kill b).new (.cells (l++anys n) true false)with
      | (b',h')=>some (.sl b' 0 len (Nat.add len n) 1,h')
    | _,_,_=>none
   | _=>none
  | false=>none
 | _,_=>none
theorem z76:∀ n,(anys n).length=n
 | 0=>rfl
 | n+1=>by simp[anys,z76 n]
theorem j56:∀ {n i:Nat} {a:AVal},(anys n)[i]? = some a->a=.any/\i<n
 | 0,i,a,h=>by simp[anys]at h
 | n+1,0,a,h=>by simp[anys]at h;exact⟨h.symm,by omega⟩
 | n+1,i+1,a,h=>by
  simp[anys]at h
  obtain⟨h1,h2⟩:=j56 h
  exact⟨h1,by omega⟩
section
variable{P:Program}{T:Tys}{B:Nat}{φ:Emb}{H:AHeap}{w:World}
theorem q1f(hH:HRel T B φ H w){b:Pos}{x:Place}(hx:φ b=some x){m:List AVal}{op:Bool}(hb:PT.get b H.t=some (.cells m op false)){o n:Nat}{old:List AVal}(hold:z0t H b o n=some old){k:Nat}(hroom:x.s+o+n+k<=x.k) :
  Sim T B φ H w (φ.put H.nx ⟨x.c,x.s+o,x.k⟩) ((H.kill b).new (.cells (old++anys k) true false)).2 w:=by
 obtain⟨arr,e,lo,hi,h1,h2,h3,h4,h5,h6,h7⟩:=hH.obj b _ x hb hx
 have hB:=h7 rfl
 obtain⟨old',q1,q2,q3,_⟩:=z3z (P:={ (default:Program)with }) hH hx hold
 have hfresh:φ H.nx=none:=hH.fresh
 have hnb:H.nx≠b:=fun e=>by rw[<-e,hfresh]at hx;cases hx
 have kept:∀ q,q≠H.nx->q≠b->PT.get q ((H.kill b).new (.cells (old++anys k) true false)).2.t=PT.get q H.t:=by
  intro q h1 h2
  simp only[AHeap.new,AHeap.kill]
  rw[PT.get_set_other _ _ _ _ (fun e=>h1 e.symm),PT.get_set_other _ _ _ _ (fun e=>h2 e.symm)]
 have gone:PT.get b ((H.kill b).new (.cells (old++anys k) true false)).2.t=none:=by
  simp only[AHeap.new,AHeap.kill]
  rw[PT.get_set_other _ _ _ _ hnb,PT.get_set_same]
 refine⟨⟨Emb.le_put _ hfresh,fun p hp hn=>?_,by simp[AHeap.new,AHeap.kill,Pos.toNat_succ]⟩,?_,Below.refl _ _⟩
 .have p1:p≠H.nx:=fun e=>by rw[e]at hp;omega
  have p2:p≠b:=fun e=>by rw[e,hx]at hn;cases hn
  exact⟨by rw[Emb.put_other _ _ p1];exact hn,kept p p1 p2⟩
 .refine hH.place H.nx _ hfresh (by simp[AHeap.new,AHeap.kill,Pos.toNat_succ]) (by simp[AHeap.new,AHeap.kill,Pos.toNat_succ]) (fun q hq=>?_) (fun q z hq hg hz=>?_) (hH.low b x hx).2 lr (fun ob hob=>?_)
  .by_cases e:q=b
   .subst e;exact .inr gone
   .exact .inl (kept q hq e)
  .have hqb:q≠b:=fun e=>by rw[e]at hg;exact hg gone
   rw[kept q hq hqb]at hg
   have hne:z.c≠x.c:=hH.inj q b z x hqb hg (by rw[hb];simp) hz hx
   exact⟨hne,rfl⟩
  .have:ob=.cells (old++anys k) true false:=by
    simp only[AHeap.new,AHeap.kill,PT.get_set_same]at hob
    exact(Option.some.inj hob).symm
   subst this
   have hle:=Emb.le_put (φ:=φ) (p:=H.nx) ⟨x.c,x.s+o,x.k⟩ hfresh
   have hol:=q2.length
   have hon:=z2g hold
   refine⟨arr,e,lo,hi,h1,h2,?_,fun i y hy=>?_,h5,fun h=>(by cases h),fun _=>hB⟩
   .show x.s+o+(old++anys k).length<=x.k
    rw[List.length_append,z76];omega
   .by_cases hi':i<old.length
    .rw[List.getElem?_append_left hi']at hy
     obtain⟨v,k1,k2⟩:=q2.get hy
     have:=q3 i v k1
     rw[z4c h1]at this
     exact⟨v,this,VRel.mono hle _ _ k2⟩
    .rw[List.getElem?_append_right (by omega)]at hy
     obtain⟨rfl,hik⟩:=j56 hy
     have:x.s+o+i<arr.size:=by rw[h2];omega
     exact⟨arr[x.s+o+i],by rw[Array.getElem?_eq_getElem this],trivial⟩
theorem y3x{f:FuncId}{fn:Func}{c:Code}(hf:P.funcs[f]? = some fn)(hname:(fn.name == "runtime.NumGoroutine")=false)(hbody:fn.body=some c){te:TypeId}{z:Value}(hz:z.cells.size=1)
  (hroom:∀ (base:Option Addr) (l c n:Nat) (w:World),l<=c->c<=9223372036854775807->n<=9223372036854775807->l+n<=c->Calls P f #[.slice base l c,.int .i64 n] w fun e w'=>e=.returned (.slice base l c)/\w'=w)
  (hgrow:∀ (base:Option Addr) (l c n:Nat) (cs:List Value) (w:World),l<=c->c<l+n->(l+n)*8<=140737488355328->l+n<=4611686018427387904->cs.length=c*1->(base=none->c=0) →
   (∀ a,base=some a->∀ j v,cs[j]? = some v->w.cell? (a.add j)=some v)->Calls P f #[.slice base l c,.int .i64 n] w fun e w' =>
    e=.returned (.slice (some ⟨w.heap.size,0,none⟩) l (grownCap w (l+n) c te)) ∧
    w'=w.drew.alloc (.cells (cs.toArray++Builtin.zeroCells z.cells (l+n-c)++Builtin.zeroCells z.cells (grownCap w (l+n) c te-(l+n))) te)) :z2k P T B f q0u:=by
 intro φ H w args args' v H' hH hl h
 unfold q0u at h
 split at h
 rotate_left
 .cases h
 rename_i s n
 split at h
 rotate_left
 .cases h
 rename_i hn
 have hn:n<=1000000:=Nat.le_of_ble_eq_true hn
 obtain⟨u,r,e1,hu,u2,r2,e2,hu2,e3⟩:=hl
 have e3:r2=[]:=e3
 subst e3
 subst e2
 have hu2:u2=.int .i64 (n:Nat):=hu2
 subst hu2
 have hargs:args'=#[u,.int .i64 (n:Nat)]:=Array.ext' e1
 subst hargs
 have fin:∀ {Q:Ending->World->Prop},Calls P f #[u,.int .i64 (n:Nat)] w Q->(∀ e w',Q e w'->∃ uu φ',e=.returned uu/\VRel φ' v uu/\Sim T B φ H w φ' H' w')->z7q P T B φ H w f #[u,.int .i64 (n:Nat)] v H':=by
  intro Q hQ hk
  exact .inl ⟨z29 hf hname hbody,CallsIn.mono (callsIn_wide.2 hQ) hk⟩
 have newRow:∀ {b:Option Addr} {len cap':Nat} {cs:List Value} {old:List AVal} {H0:AHeap},Sim T B φ H w φ H0 w->cap'<len+n->len<=cap'->len<=1000000->cs.length=cap'->old.length=len->LRel φ old (cs.take len) →
   ∃ φ',Sim T B φ H w φ' (H0.new (.cells (old++anys n) true false)).2 (w.drew.alloc (.cells (cs.toArray++Builtin.zeroCells z.cells (len+n-cap')++Builtin.zeroCells z.cells (grownCap w (len+n) cap' te-(len+n))) te)) ∧
    VRel φ' (.sl H0.nx 0 len (len+n) 1) (.slice (some ⟨w.heap.size,0,none⟩) len (grownCap w (len+n) cap' te)):=by
  intro b len cap' cs old H0 hS0 hc hlc hlen hcs hold hrel
  have hge:=j5j w (len+n) cap' te
  have hH2:HRel T B φ H0 w.drew:=hS0.rel.drawn rfl
  have hk:(cs.toArray++Builtin.zeroCells z.cells (len+n-cap')++Builtin.zeroCells z.cells (grownCap w (len+n) cap' te-(len+n))).size=grownCap w (len+n) cap' te:=by
   simp only[Array.size_append,List.size_toArray,Builtin.zeroCells,Array.size_map,Array.size_range,hz,hcs]
   omega
  have hcells:∀ (i:Nat) (a:AVal),(old++anys n)[i]? = some a->∃ v,(cs.toArray++Builtin.zeroCells z.cells (len+n-cap')++Builtin.zeroCells z.cells (grownCap w (len+n) cap' te-(len+n)))[i]? = some v/\VRel φ a v:=by
   intro i y hy
   by_cases hi:i<old.length
   .rw[List.getElem?_append_left hi]at hy
    obtain⟨vv,g1,g2⟩:=hrel.get hy
    refine⟨vv,?_,g2⟩
    rw[List.getElem?_take]at g1
    split at g1
    .have hic:i<cs.length:=by omega
     rw[Array.append_assoc,Array.getElem?_append_left (by simpa using hic)]
     simpa using g1
    .cases g1
   .rw[List.getElem?_append_right (by omega)]at hy
    obtain⟨rfl,hik⟩:=j56 hy
    have:i<(cs.toArray++Builtin.zeroCells z.cells (len+n-cap')++Builtin.zeroCells z.cells (grownCap w (len+n) cap' te-(len+n))).size:=by rw[hk];omega
    exact⟨_,Array.getElem?_eq_getElem this,trivial⟩
  have S:=Sim.new hH2 (.cells (old++anys n) true false) (.cells (cs.toArray++Builtin.zeroCells z.cells (len+n-cap')++Builtin.zeroCells z.cells (grownCap w (len+n) cap' te-(len+n))) te) _ (ORel.cells_new hH2.base hcells (by rw[List.length_append,z76,hk];omega) true)
  rw[hk]at S
  refine⟨_,hS0.trans ((⟨Ext.refl _ _,hH2,(Below.refl B w).drew⟩ :Sim T B φ H0 w φ H0 w.drew).trans S),⟨w.heap.size,0,grownCap w (len+n) cap' te⟩,⟨w.heap.size,0,none⟩,_,Emb.put_same _ _ _,rfl,by omega,hge,.inr (.inl ⟨by decide,rfl,?_,Go.grownCap_le_maxLen _ _ _ _ (by unfold maxLen;omega)⟩)⟩
  show 0+0+grownCap w (len+n) cap' te*1<=grownCap w (len+n) cap' te
  omega
 split at h
 ·
  have hu:u=.slice none 0 0:=hu
  subst hu
  split at h
  .cases h
   have hr:=hroom none 0 0 0 w lr (Nat.zero_le _) (Nat.zero_le _) lr
   refine fin hr ?_
   rintro e w' ⟨rfl,rfl⟩
   exact⟨_,φ,rfl,rfl,Sim.refl hH⟩
  .rename_i m hm
   simp only[Option.some.injEq,Prod.mk.injEq]at h
   obtain⟨rfl,rfl⟩:=h
   obtain⟨φ',g1,g2⟩:=newRow (b:=none) (len:=0) (cap':=0) (cs:=[]) (old:=[]) (Sim.refl hH) (by omega) (by omega) (by omega) rfl rfl rfl
   have hr:=hgrow none 0 0 (m+1) [] w lr (by omega) (by omega) (by omega) rfl (fun _=>rfl) (fun a ha=>by cases ha)
   refine fin hr ?_
   rintro e w' ⟨rfl,rfl⟩
   refine⟨_,φ',rfl,?_,g1⟩
   simpa[AHeap.new]using g2
 .rename_i b o len cap
  split at h
  rotate_left
  .cases h
  rename_i mm oo l hlen hb hold
  have hlen:len<=1000000:=Nat.le_of_ble_eq_true hlen
  obtain⟨y,a',cap',f1,f2,f3,f4,f5,f6,f7⟩:=j1f hu
  subst f2
  have hll:=z2g hold
  have hc63:cap'<=9223372036854775807:=by
   rcases Nat.eq_zero_or_pos cap' with h0 | h0
   .omega
   .exact(f7 (by decide) h0).2.2
  split at h
  .rename_i hle
   have hle:len+n<=cap:=Nat.le_of_ble_eq_true hle
   cases h
   refine fin (hroom (some a') len cap' n w (by omega) hc63 (by omega) (by omega)) ?_
   rintro e w' ⟨rfl,rfl⟩
   exact⟨_,φ,rfl,hu,Sim.refl hH⟩
  .rename_i hle
   simp only[Option.some.injEq,Prod.mk.injEq]at h
   obtain⟨rfl,rfl⟩:=h
   rcases Nat.lt_or_ge cap' (len+n)with hc | hc
   ·
    obtain⟨arr,ety,lo,hi,k1,k2,k3,k4,_⟩:=hH.obj b _ y hb f1
    obtain⟨us,q1,q2,q3,_⟩:=z3z (P:=P) hH f1 hold
    by_cases h0:cap'=0
    .subst h0
     have hl0:len=0:=by omega
     subst hl0
     obtain⟨φ',g1,g2⟩:=newRow (b:=some a') (len:=0) (cap':=0) (cs:=[]) (old:=l) (Sim.kill hH f1) (by omega) (by omega) (by omega) rfl hll (by
      have:l=[]:=List.length_eq_zero_iff.1 hll
      subst this;rfl)
     refine fin (hgrow (some a') 0 0 n [] w (by omega) (by omega) (by omega) (by omega) rfl (fun h=>by cases h) (fun a _ j v hj=>by simp at hj)) ?_
     rintro e w' ⟨rfl,rfl⟩
     exact⟨_,φ',rfl,g2,g1⟩
    .obtain⟨ea,eb,_⟩:=f7 (by decide) (by omega)
     let cs:List Value:=(arr.toList.drop (y.s+o)).take cap'
     have hcsl:cs.length=cap':=by
      have:arr.toList.length=y.k:=by simpa using k2
      simp only[cs,List.length_take,List.length_drop,this]
      omega
     have hcsg:∀ (j:Nat) (v:Value),cs[j]? = some v->arr[y.s+o+j]? = some v:=by
      intro j v hj
      simp only[cs,List.getElem?_take,List.getElem?_drop]at hj
      split at hj
      .simpa using hj
      .cases hj
     have hrel:LRel φ l (cs.take len):=by
      have:cs.take len=us:=by
       apply List.ext_getElem?
       intro j
       by_cases hj:j<len
       .have h1:j<us.length:=by omega
        have:=q3 j us[j] (by simp[h1])
        rw[z4c k1]at this
        rw[List.getElem?_take,if_pos hj,List.getElem?_eq_getElem h1]
        simp only[cs,List.getElem?_take,List.getElem?_drop]
        rw[if_pos (by omega)]
        simpa using this
       .rw[List.getElem?_take,if_neg hj,List.getElem?_eq_none (by omega)]
      rw[this];exact q2
     obtain⟨φ',g1,g2⟩:=newRow (b:=some a') (len:=len) (cap':=cap') (cs:=cs) (old:=l) (Sim.kill hH f1) hc (by omega) hlen hcsl hll hrel
     refine fin (hgrow (some a') len cap' n cs w (by omega) hc (by omega) (by omega) (by omega) (fun h=>by cases h) (fun a ha j v hj=>?_)) ?_
     .cases ha
      rw[ea,z24,z4c k1]
      exact hcsg j v hj
     .rintro e w' ⟨rfl,rfl⟩
      exact⟨_,φ',rfl,g2,g1⟩
   ·
    refine fin (hroom (some a') len cap' n w (by omega) hc63 (by omega) hc) ?_
    rintro e w' ⟨rfl,rfl⟩
    rcases Nat.eq_zero_or_pos cap' with h0 | h0
    ·
     have hn0:n=0:=by omega
     have hl0:len=0:=by omega
     subst hn0 hl0
     have:Nat.ble (Nat.add 0 0) cap=true:=by rw[Nat.ble_eq];exact Nat.zero_le _
     rw[this]at hle;cases hle
    .obtain⟨ea,eb,ec⟩:=f7 (by decide) h0
     have S:=q1f hH f1 hb hold (k:=n) (by omega)
     refine⟨_,_,rfl,⟨⟨y.c,y.s+o,y.k⟩,a',cap',Emb.put_same _ _ _,rfl,Nat.le_add_right _ _,hc,.inr (.inl ⟨by decide,by rw[ea];rfl,eb,ec⟩)⟩,S⟩
 .cases h
end
def newT(nx:Nat) :PT AObj->Nat->Nat->Bool
 | .l,_,_=>true
 | .n a v b,lo,w=>(match v with
  | none=>true
  | some _=>Nat.ble nx (Nat.add lo w)) && (newT nx a lo (Nat.mul 2 w) && newT nx b (Nat.add lo w) (Nat.mul 2 w))
def subO(nx k:Nat) :Option AObj->Option AObj->Bool
 | none,none=>true
 | none,some _=>Nat.ble nx k
 | some x,some y=>eqvO x y
 | some _,none=>false
def subT(nx:Nat) :PT AObj->PT AObj->Nat->Nat->Bool
 | .l,t,lo,w=>newT nx t lo w
 | .n _ _ _,.l,_,_=>false
 | .n a v b,.n a' v' b',lo,w=>subO nx (Nat.add lo w) v v' && (subT nx a a' lo (Nat.mul 2 w) && subT nx b b' (Nat.add lo w) (Nat.mul 2 w))
def gcOk(nx:Pos)(h1 h:AHeap) :Bool:=Pos.beq h1.nx h.nx && subT nx.toNat h1.t h.t 0 1
theorem j47{nx:Nat} :∀ {t:PT AObj} {lo w:Nat},newT nx t lo w=true->∀ p,PT.get p t=none\/nx<=lo+w*p.toNat
 | .l,lo,w,_,p=>.inl (z2o p)
 | .n a v b,lo,w,h,p=>by
  simp only[newT,Bool.and_eq_true]at h
  obtain⟨h1,h2,h3⟩:=h
  have e2:Nat.mul 2 w=2*w:=rfl
  have e1:Nat.add lo w=lo+w:=rfl
  rw[e2]at h2 h3
  rw[e1]at h3
  cases p with
  | h =>
   cases v with
   | none=>exact .inl rfl
   | some x =>
    have:=Nat.le_of_ble_eq_true h1
    rw[e1]at this
    simp only[Pos.toNat]
    exact .inr (by omega)
  | o q =>
   rcases j47 h2 q with h | h
   .exact .inl h
   .refine .inr ?_
    simp only[Pos.toNat]
    have:w*(2*q.toNat)=2*w*q.toNat:=by rw[Nat.mul_left_comm,Nat.mul_assoc]
    omega
  | i q =>
   rcases j47 h3 q with h | h
   .exact .inl h
   .refine .inr ?_
    simp only[Pos.toNat]
    have:w*(2*q.toNat+1)=2*w*q.toNat+w:=by rw[Nat.mul_add,Nat.mul_left_comm,Nat.mul_assoc];omega
    omega
theorem j4l{nx:Nat} :∀ {k f:PT AObj} {lo w:Nat},subT nx k f lo w=true->∀ p,PT.get p k=PT.get p f\/(PT.get p k=none/\nx<=lo+w*p.toNat)
 | .l,f,lo,w,h,p=>by
  simp only[subT]at h
  rcases j47 h p with h | h
  .exact .inl (by rw[z2o,h])
  .exact .inr ⟨z2o p,h⟩
 | .n _ _ _,.l,_,_,h,_=>by simp[subT]at h
 | .n a v b,.n a' v' b',lo,w,h,p=>by
  simp only[subT,Bool.and_eq_true]at h
  obtain⟨h1,h2,h3⟩:=h
  have e2:Nat.mul 2 w=2*w:=rfl
  have e1:Nat.add lo w=lo+w:=rfl
  rw[e2]at h2 h3
  rw[e1]at h1 h3
  cases p with
  | h =>
   cases v with
   | none =>
    cases v' with
    | none=>exact .inl rfl
    | some y =>
     have:=Nat.le_of_ble_eq_true h1
     refine .inr ⟨rfl,?_⟩
     simp only[Pos.toNat]
     omega
   | some x =>
    cases v' with
    | none=>simp[subO]at h1
    | some y =>
     simp only[subO]at h1
     exact .inl (by rw[y9i _ _ h1];rfl)
  | o q =>
   rcases j4l h2 q with h | ⟨h,h'⟩
   .exact .inl h
   .refine .inr ⟨h,?_⟩
    simp only[Pos.toNat]
    have:w*(2*q.toNat)=2*w*q.toNat:=by rw[Nat.mul_left_comm,Nat.mul_assoc]
    omega
  | i q =>
   rcases j4l h3 q with h | ⟨h,h'⟩
   .exact .inl h
   .refine .inr ⟨h,?_⟩
    simp only[Pos.toNat]
    have:w*(2*q.toNat+1)=2*w*q.toNat+w:=by rw[Nat.mul_add,Nat.mul_left_comm,Nat.mul_assoc];omega
    omega
structure Mem where
 args:List AVal
 h0:AHeap
 v:AVal
 h1:AHeap
def j2m(E:Env)(n:Nat)(f:FuncId)(m:Mem) :Bool :=
 match callF E (ev E n) f m.args m.h0 with
 | some (v,h)=>eqvV v m.v && gcOk m.h0.nx m.h1 h
 | none=>false
noncomputable def j2n(E:Env)(n:Nat)(f:FuncId)(m:Mem) :Bool :=
 match callF E (evF E n) f m.args m.h0 with
 | some (v,h)=>eqvV v m.v && gcOk m.h0.nx m.h1 h
 | none=>false
theorem j8i(E:Env)(n:Nat)(f:FuncId)(m:Mem) :j2n E n f m=j2m E n f m:=by
 unfold j2n j2m
 rw[q5a]
def j7l:List Mem->List AVal->AHeap->ARes
 | [],_,_=>none
 | m::ms,args,h=>match eqvL args m.args with
  | true=>match eqvH h m.h0 with
   | true=>some (m.v,m.h1)
   | false=>j7l ms args h
  | false=>j7l ms args h
section
variable{P:Program}{T:Tys}{B:Nat}{φ φ':Emb}{H H1 H2:AHeap}{w w':World}
theorem Sim.gc(hS:Sim T B φ H w φ' H1 w')(h:gcOk H.nx H2 H1=true) :Sim T B φ H w φ' H2 w':=by
 simp only[gcOk,Bool.and_eq_true]at h
 obtain⟨h1,h2⟩:=h
 have hnx:H2.nx=H1.nx:=Pos.beq_eq.1 h1
 have hg:=j4l h2
 have sub:∀ p o,PT.get p H2.t=some o->PT.get p H1.t=some o:=fun p o hp=>by
  rcases hg p with h | ⟨h,_⟩
  .rw[<-h];exact hp
  .rw[h]at hp;cases hp
 have sub':∀ p,PT.get p H2.t≠none->PT.get p H1.t≠none:=fun p hp=>by
  cases ho:PT.get p H2.t with
  | none=>exact absurd ho hp
  | some o=>rw[sub p o ho];simp
 have hR:=hS.rel
 refine⟨⟨hS.ext.le,fun p hp hn=>?_,by rw[hnx];exact hS.ext.nx⟩,⟨fun p o x h1 h2=>hR.obj p o x (sub p o h1) h2,fun p q x y hpq hp hq=>hR.inj p q x y hpq (sub' p hp) (sub' q hq),fun p x hx=>by rw[hnx];exact hR.low p x hx,fun p hp=>by rw[hnx];exact hR.dom p (sub' p hp),hR.base,hR.glob⟩,hS.below⟩
 obtain⟨e1,e2⟩:=hS.ext.old p hp hn
 refine⟨e1,?_⟩
 rcases hg p with h | ⟨_,h⟩
 .rw[h,e2]
 .omega
theorem z2k.of_memos{E:Env}{n:Nat}{f:FuncId}(hT:TOk2 T P)(hE:EnvOk P T B E)(hm:P.follows .mixedOrders=true){ms:List Mem}(h:∀ m∈ms,j2m E n f m=true) :z2k P T B f (j7l ms):=by
 intro φ H w args args' v H' hH hl hc
 induction ms with
 | nil=>simp[j7l]at hc
 | cons m ms ih =>
  simp only[j7l]at hc
  have ih:=ih fun m' hm'=>h m' (List.mem_cons_of_mem _ hm')
  split at hc
  .rename_i e1
   split at hc
   .rename_i e2
    cases hc
    have hk:=h m (by simp)
    unfold j2m at hk
    have e1:=z7y _ _ e1
    have e2:=y9j _ _ e2
    subst e1
    subst e2
    split at hk
    .rename_i v h1 hcall
     simp only[Bool.and_eq_true]at hk
     obtain⟨g1,g2⟩:=j4r hT hE hm hH hl hcall
     refine .inl ⟨g1,CallsIn.mono g2 fun e w' ⟨u,φ',he,hv,hS⟩=>⟨u,φ',he,?_,hS.gc hk.2⟩⟩
     rw[<-z9l _ _ hk.1]
     exact hv
    .cases hk
   .exact ih hc
  .exact ih hc
theorem z2k.of_chunks{E:Env}{n:Nat}{f:FuncId}(hT:TOk2 T P)(hE:EnvOk P T B E)(hm:P.follows .mixedOrders=true){ms:List Mem}(h:∀ m∈ms,j2n E n f m=true) :z2k P T B f (j7l ms) :=
 z2k.of_memos hT hE hm fun m hm'=>by rw[<-j8i];exact h m hm'
theorem z4r.of_chunk{E:Env}{n:Nat}{f:FuncId}(hT:TOk2 T P)(hE:EnvOk P T B E)(hm:P.follows .mixedOrders=true){m:Mem}(h:j2n E n f m=true)(hH:HRel T B φ m.h0 w){args':Array Value}(hl:LRel φ m.args args'.toList) :z4r P T B φ m.h0 w f args' m.v m.h1:=by
 rw[j8i]at h
 unfold j2m at h
 split at h
 .rename_i v h1 hcall
  simp only[Bool.and_eq_true]at h
  obtain⟨g1,g2⟩:=j4r hT hE hm hH hl hcall
  refine⟨g1,CallsIn.mono g2 fun e w' ⟨u,φ',he,hv,hS⟩=>⟨u,φ',he,?_,hS.gc h.2⟩⟩
  rw[<-z9l _ _ h.1]
  exact hv
 .cases h
end
def u8(n:Nat) :AVal:=.int .u8 (.ofNat n)
def i6(n:Nat) :AVal:=.int .i64 (.ofNat n)
def u8s:List Nat->List AVal
 | []=>[]
 | n::l=>.int .u8 (.ofNat n)::u8s l
def i6s:List Nat->List AVal
 | []=>[]
 | n::l=>.int .i64 (.ofNat n)::i6s l
end Go.Am
end
section
namespace Go.Am
open Go Go.RowKit Go.ChangeShapes Go.WideShapes
theorem j0t{P:Program}{W:World}{n:String}{d:DataW Unit} :∀ {l:List (String×DataW Unit)} {ps:List MemPlace},DataW.LaidVars P W l ps->(n,d)∈l →
  ∃ g t cs fuel p,P.globalNamed n=some g/\(P.globals[g]?).map (·.type)=some t/\W.var? P n=some cs/\DataW.trod (fun _=>()) P W 0 (fun _=>true) false fuel t cs.toList=some (d,p)
 | [],_,_,h=>by cases h
 | (n',d')::r,ps,⟨g,t,cs,fuel,p,q,h1,h2,h3,h4,h5,_⟩,h=>by
  rcases List.mem_cons.1 h with e | h
  .cases e;exact⟨g,t,cs,fuel,p,h1,h2,h3,h4⟩
  .exact j0t h5 h
theorem z41{P:Program}{W:World}{n:String}{g:Nat}{cs:Array Value}(hg:P.globalNamed n=some g)(h:W.var? P n=some cs) :∃ e fz,W.heap[g]? = some (.cells cs e fz):=by
 simp only[World.var?,hg,Option.bind_some]at h
 split at h
 .rename_i cs' e fz hc
  cases h
  exact⟨e,fz,hc⟩
 .cases h
def Lies(W:World)(g:Nat)(l:List AVal) :Prop:=∃ arr e fz,W.heap[g]? = some (.cells arr e fz)/\∀ φ,LRel φ l arr.toList
theorem LRel.ints{φ:Emb}{k:IntKind} :∀ (zs:List Int),LRel φ (zs.map (AVal.int k)) (zs.map fun z=>Value.int k z)
 | []=>rfl
 | _::zs=>⟨_,_,rfl,rfl,LRel.ints zs⟩
theorem j5c{P:Program}{W:World}{l:List (String×DataW Unit)}{name:String}{k:IntKind}{zs:List Int}{g:Nat}{t e:TypeId}{n:Nat}(h:laidMet P l W)(hm:(name,Lib.tabData k zs)∈l)
  (hg:P.globalNamed name=some g) (hty:(P.globals[g]?).map (·.type)=some t) (ht:P.underlying t=some (.array n e)) (he:P.underlying e=some (.int k)) (hce:P.cellsOf e=1) (hct:P.cellsOf t=n) :Lies W g (zs.map (AVal.int k))/\Lib.TabIs P W name k zs:=by
 obtain⟨ps,h1,_,_⟩:=h
 obtain⟨g',t',cs,fuel,p,hg',hty',hv,hd⟩:=j0t h1 hm
 obtain rfl:=Option.some.inj (hg.symm.trans hg')
 obtain rfl:=Option.some.inj (hty.symm.trans hty')
 have hc:=Lib.cells_of_tab ht he hce hct hd
 obtain⟨ee,fz,hb⟩:=z41 hg hv
 refine⟨⟨cs,ee,fz,hb,fun φ=>by rw[hc];exact LRel.ints zs⟩,?_⟩
 unfold Lib.TabIs
 rw[hv,<-hc]
def z8f:List (List UInt8×Int)->List AVal
 | []=>[]
 | (s,n)::l=>.str (s.map UInt8.toNat)::.int .i64 n::z8f l
theorem j7i{φ:Emb} :∀ {ss:List (List UInt8×Int)} {cs:List Value},cs.length=ss.length*2->(∀ i p,ss[i]? = some p->cs[i*2]? = some (.string ⟨p.1.toArray⟩)/\cs[i*2+1]? = some (.int .i64 p.2))->LRel φ (z8f ss) cs
 | [],cs,h,_=>by
  have:cs=[]:=List.length_eq_zero_iff.1 (by simpa using h)
  rw[this];rfl
 | (s,n)::ss,cs,h,hk=>by
  match cs,h with
  | [],h=>simp at h
  | [a],h=>simp at h;omega
  | a::b::cs,h =>
   obtain⟨h1,h2⟩:=hk 0 (s,n) rfl
   simp at h1 h2
   refine⟨a,b::cs,rfl,⟨?_,fun x hx=>?_⟩,b,cs,rfl,h2,j7i (by simp at h;omega) fun i p hp=>?_⟩
   .rw[h1]
    congr 2
    have:(UInt8.ofNat ∘ UInt8.toNat)=id:=by funext b;simp
    simp[this]
   .obtain⟨y,_,rfl⟩:=List.mem_map.1 hx
    exact y.toNat_lt
   .have:=hk (i+1) p (by simpa using hp)
    rw[show(i+1)*2=i*2+1+1 by omega]at this
    simpa using this
theorem y4i{P:Program}{W:World}{l:List (String×DataW Unit)}{name:String}{ss:List (List UInt8×Int)}{g:Nat}{t e:TypeId}{n:Nat}{f0 f1:Field}(h:laidMet P l W)(hm:(name,.agg (ss.map fun p=>.agg [.lit (.string p.1),.lit (.int .i64 p.2)]))∈l)
  (hg:P.globalNamed name=some g) (hty:(P.globals[g]?).map (·.type)=some t) (ht:P.underlying t=some (.array n e)) (he:P.underlying e=some (.struct #[f0,f1])) (h0:P.underlying f0.type=some .string) (h1:P.underlying f1.type=some (.int .i64))
  (o0:f0.offset=0) (o1:f1.offset=1) (c0:P.cellsOf f0.type=1) (c1:P.cellsOf f1.type=1) (ce:P.cellsOf e=2) (ct:P.cellsOf t=n*2) :Lies W g (z8f ss):=by
 obtain⟨ps,hv0,_,_⟩:=h
 obtain⟨g',t',cs,fuel,p,hg',hty',hv,hd⟩:=j0t hv0 hm
 obtain rfl:=Option.some.inj (hg.symm.trans hg')
 obtain rfl:=Option.some.inj (hty.symm.trans hty')
 obtain⟨ee,fz,hb⟩:=z41 hg hv
 obtain⟨xs,m,_,ex,hl,hxl,hel⟩:=DataW.trod_array ht hd
 have hmap:xs.map (·.1)=ss.map fun p=>.agg [.lit (.string p.1),.lit (.int .i64 p.2)]:=(DataW.agg.inj (Prod.mk.inj ex).1).symm
 have hsl:ss.length=n:=by
  have:=congrArg List.length hmap
  simp at this;omega
 refine⟨cs,ee,fz,hb,fun φ=>j7i (by rw[hl,ct,hsl]) fun i p hp=>?_⟩
 have hi:i<n:=by
  rcases Nat.lt_or_ge i n with h | h
  .exact h
  .rw[List.getElem?_eq_none (by omega)]at hp;cases hp
 have hE:=hel i hi
 rw[ce]at hE
 have hx:(xs.map (·.1))[i]? = some (.agg [.lit (.string p.1),.lit (.int .i64 p.2)]):=by
  rw[hmap,List.getElem?_map,hp];rfl
 rw[List.getElem?_map]at hx
 cases hxi:xs[i]? with
 | none=>rw[hxi]at hx;cases hx
 | some y =>
  rw[hxi]at hx hE
  obtain⟨y0,y1,k,ey,_,g0,g1⟩:=trod_struct2 he hE
  have hy:y.1=.agg [.lit (.string p.1),.lit (.int .i64 p.2)]:=by simpa using hx
  rw[ey]at hy
  simp only[DataW.agg.injEq,List.cons.injEq,and_true]at hy
  obtain⟨e0,e1⟩:=hy
  obtain⟨s,s1,s2,_⟩:=DataW.trod_string h0 g0
  obtain⟨z,z1,z2,_⟩:=DataW.trod_int h1 g1
  rw[s2]at e0
  rw[z2]at e1
  have e0:s.data.toList=p.1:=by simpa using e0
  have e1:z=p.2:=by simpa using e1
  rw[o0,c0]at s1
  rw[o1,c1]at z1
  constructor
  .have:(((cs.toList.drop (i*2)).take 2).drop 0 |>.take 1)[0]? = some (.string s):=by rw[s1];rfl
   simp only[List.drop_zero,List.getElem?_take,List.getElem?_drop]at this
   simp at this
   rw[<-e0]
   simpa using this
  .have:(((cs.toList.drop (i*2)).take 2).drop 1 |>.take 1)[0]? = some (.int .i64 z):=by rw[z1];rfl
   simp only[List.getElem?_take,List.getElem?_drop]at this
   simp at this
   rw[<-e1]
   simpa using this
def z50(W:World)(ng:Nat) :Emb:=fun p=>match Nat.ble p.toNat ng with
 | true=>some ⟨p.toNat-1,0,match W.heap[p.toNat-1]? with | some (.cells arr _ _)=>arr.size | _=>0⟩
 | false=>none
theorem HRel.start{T:Tys}{W:World}{objs:List (Nat×List AVal)}(hng:T.ng<=W.heap.size)(h31:T.ng<2^31)(h:∀ p∈objs,p.1<T.ng/\Lies W p.1 p.2) :
  HRel T W.heap.size (z50 W T.ng) ⟨z1v (objs.map fun p=>(p.1,.cells p.2 false true)) .l,Pos.ofNat T.ng⟩ W:=by
 have hto:∀ g,g<2^31->(Pos.ofNat g).toNat=g+1:=fun g hg=>Pos.toNat_ofNat hg
 have hinv:∀ (p:Pos) o,PT.get p (z1v (objs.map fun p=>(p.1,AObj.cells p.2 false true)) (.l:PT AObj))=some o->∃ q∈objs,p=Pos.ofNat q.1/\o=.cells q.2 false true:=by
  have all:∀ (l:List (Nat×AObj)) (t:PT AObj) (p:Pos) o,PT.get p (z1v l t)=some o->(∃ q∈l,p=Pos.ofNat q.1/\o=q.2)\/PT.get p t=some o:=by
   intro l
   induction l with
   | nil=>intro t p o h;exact .inr h
   | cons x l ih =>
    intro t p o h
    simp only[z1v]at h
    rcases ih _ p o h with⟨q,hq,e⟩ | h
    .exact .inl ⟨q,List.mem_cons_of_mem _ hq,e⟩
    .by_cases e:Pos.ofNat x.1=p
     .subst e
      rw[PT.get_set_same]at h
      exact .inl ⟨x,by simp,rfl,(Option.some.inj h).symm⟩
     .rw[PT.get_set_other _ _ _ _ e]at h
      exact .inr h
  intro p o hp
  rcases all _ _ p o hp with⟨q,hq,e1,e2⟩ | hp
  .obtain⟨q',hq',rfl⟩:=List.mem_map.1 hq
   exact⟨q',hq',e1,e2⟩
  .rw[z2o]at hp;cases hp
 have hem:∀ p x,z50 W T.ng p=some x->p.toNat<=T.ng/\x.c=p.toNat-1/\x.s=0/\x.k=(match W.heap[p.toNat-1]? with | some (.cells arr _ _)=>arr.size | _=>0):=by
  intro p x hx
  unfold z50 at hx
  split at hx
  .rename_i hb
   cases hx
   exact⟨Nat.le_of_ble_eq_true hb,rfl,rfl,rfl⟩
  .cases hx
 refine⟨fun p o x hp hx=>?_,fun p q x y hpq hp hq hx hy=>?_,fun p x hx=>?_,fun p hp=>?_,lr,fun g hg=>?_⟩
 .obtain⟨q,hq,rfl,rfl⟩:=hinv p o hp
  obtain⟨h1,arr,e,⟨lo,hi⟩,h2,h3⟩:=h q hq
  obtain⟨_,e1,e2,e3⟩:=hem _ x hx
  rw[hto q.1 (by omega)]at e1 e3
  simp only[Nat.add_sub_cancel]at e1 e3
  rw[h2]at e3
  simp only at e3
  have hlen:=(h3 (z50 W T.ng)).lengthA
  refine⟨arr,e,lo,hi,by rw[e1];exact h2,e3.symm,by rw[e2,e3,hlen];omega,fun i a hi=>?_,.inr (.inr rfl),fun _ h=>(by cases h),fun h=>(by cases h)⟩
  obtain⟨v,g1,g2⟩:=(h3 (z50 W T.ng)).getA i a hi
  exact⟨v,by rw[e2,Nat.zero_add];exact g1,g2⟩
 .obtain⟨a1,b1,_⟩:=hem p x hx
  obtain⟨a2,b2,_⟩:=hem q y hy
  intro e
  have hp1:=Pos.toNat_pos p
  have hq1:=Pos.toNat_pos q
  have:p.toNat=q.toNat:=by omega
  exact hpq (Pos.toNat_inj this)
 .obtain⟨a1,b1,_⟩:=hem p x hx
  have hp1:=Pos.toNat_pos p
  rw[hto T.ng h31]
  exact⟨by omega,by omega⟩
 .cases ho:PT.get p (z1v (objs.map fun p=>(p.1,AObj.cells p.2 false true)) (.l:PT AObj))with
  | none=>exact absurd ho hp
  | some o =>
   obtain⟨q,hq,rfl,_⟩:=hinv p o ho
   have:=(h q hq).1
   show(Pos.ofNat q.1).toNat<(Pos.ofNat T.ng).toNat
   rw[hto q.1 (by omega),hto T.ng h31]
   omega
 .refine⟨(match W.heap[g]? with | some (.cells arr _ _)=>arr.size | _=>0),?_⟩
  unfold z50
  rw[hto g (by omega)]
  have:Nat.ble (g+1) T.ng=true:=Nat.ble_eq_true_of_le (by omega)
  rw[this]
  simp
theorem z4r.calls{P:Program}{T:Tys}{B:Nat}{φ:Emb}{H H':AHeap}{w:World}{f:FuncId}{args:Array Value}{v:AVal}(h:z4r P T B φ H w f args v H'){Q:Ending->World->Prop}
  (hQ:∀ u φ' w',VRel φ' v u->Sim T B φ H w φ' H' w'->Q (.returned u) w') :Calls P f args w Q :=
 callsIn_wide.1 (CallsIn.mono h.2 fun e w' ⟨u,φ',he,hv,hS⟩=>by subst he;exact hQ u φ' w' hv hS)
theorem j43{H:Type}{enc:TypeId×Value->H}{P:Program}{f:Func}{s:ChangeSpec}{apart fresh handsOn z3u:Bool}{W W':World}{args:Array Value}{v:Value}{ds gs:List (DataW H)}{before pa pv:List MemPlace}
  (hW:DataW.Whole enc P f.params.toList s.vars apart W args.toList ds gs before)
  (hres:∀ (b:Nat) (sp:Nat->Bool) (hd:Bool),DataW.TrodAll enc P W' b sp hd f.resultTypes.toList (v.resultList f.resultTypes.size) (s.fn H (ds++gs)).results [])
  (hargs:∀ sp:Nat->Bool,(∀ p∈before,sp p.block=true)->DataW.TrodAll enc P W' 0 sp true f.params.toList args.toList (s.fn H (ds++gs)).args pa)
  (hvars:∀ sp:Nat->Bool,(∀ p∈before,sp p.block=true)->DataW.TrodVars enc P W' sp s.vars (s.fn H (ds++gs)).vars pv)
  (hps:before=pa++pv) (hb:Below W.heap.size W W')
  (hok:∀ (j:Nat) (t:TypeId) (r:Value),f.resultTypes[j]? = some t->(v.resultList f.resultTypes.size)[j]? = some r->Value.okWide P W' .any 0 t r) :
  s.post enc P f apart fresh handsOn z3u W args v W':=by
 have hold:∀ p∈before,(fun b=>decide (b<W.heap.size)) p.block=true:=fun p hp=>by simpa using hW.lt p hp
 have hlt:=hW.lt
 refine⟨ds,gs,before,[],pa,pv,hW,hres _ _ _,hargs _ hold,hvars _ hold,World.keptBut_mono (fun p hp=>⟨hp,?_⟩) (hb.frame (· ∈ before)),fun _=>?_⟩
 .rw[hps,List.mem_append]at hp
  exact Or.inr hp
 .obtain⟨_,_,_,_,_,hz,hn⟩:=hW
  refine⟨hok,_,_,([]++pa)++pv,⟨[]++pa,pv,trodAll_append (hargs _ (fun _ _=>rfl)) (hres _ _ _),hvars _ (fun _ _=>rfl),rfl,?_,?_⟩,?_⟩
  .intro b off hp
   have hpb:MemPlace.cell b off∈before:=by rw[hps];simpa using hp
   rw[hb.frozen (p:=⟨b,off,none⟩) (hlt _ hpb)]
   exact hz b off hpb
  .intro ha
   have:=hn ha
   rw[hps]at this
   simpa using this
  .intro p hp _
   rw[hps]
   simpa using hp
end Go.Am
end
section
namespace Go.Am
open Go Go.RowKit
section
variable{P:Program}{T:Tys}{B:Nat}{φ:Emb}{H:AHeap}{w:World}{nt:Nat}{t:PT AVal}{a:Act}{ops:Array Oper}{rest:List Oper}{o:Oper}{r:Option Nat}{Q:Exit->Act->World->Prop}{ds:List ADef}
end
def nums(l:List UInt8) :List Nat:=l.map UInt8.toNat
theorem y5p{φ:Emb}(l:List UInt8) :VRel φ (.str (nums l)) (.string ⟨l.toArray⟩):=by
 refine⟨?_,fun x hx=>?_⟩
 .congr 2
  have:(UInt8.ofNat ∘ UInt8.toNat)=id:=by funext b;simp
  simp[nums,this]
 .obtain⟨y,_,rfl⟩:=List.mem_map.1 hx
  exact y.toNat_lt
section
variable{P:Program}{T:Tys}{B:Nat}{φ:Emb}{H:AHeap}{w:World}
theorem Below.wide{a b c:World}(h:Below a.heap.size a b)(h':Below b.heap.size b c) :Below a.heap.size a c:=h.trans (h'.mono h.size)
end
end Go.Am
end
section
namespace Go.Am
open Go
section
variable{E:Env}
def Evs(E:Env)(c:ACode)(ro:Option Pos)(a:AAct)(H:AHeap)(r:AExit×AAct×AHeap) :Prop:=∃ n0,∀ n,n0<=n->ev E n c ro a H=some r
def Ops(E:Env)(ds:List ADef)(l:List AOper)(t:PT AVal)(H:AHeap)(r:AExit×AAct×AHeap) :Prop:=∃ n0,∀ n,n0<=n->opsA E (ev E n) ds l t H=some r
def Drs(E:Env)(ds:List ADef)(l:List ADraw)(t:PT AVal)(H:AHeap)(seen:List Seen)(r:AExit×AAct×AHeap) :Prop:=∃ n0,∀ n,n0<=n->z3t E (ev E n) ds l t H seen=some r
def z0f(E:Env)(f:FuncId)(args:List AVal)(H:AHeap)(v:AVal)(H':AHeap) :Prop:=∃ n0,∀ n,n0<=n->z9p E (ev E n) f args H=some (v,H')
def z7r(E:Env)(f:FuncId)(args:List AVal)(H:AHeap)(v:AVal)(H':AHeap) :Prop:=∃ n0,∀ n,n0<=n->callF E (ev E n) f args H=some (v,H')
theorem Evs.skip{ro:Option Pos}{a:AAct}{H:AHeap} :Evs E .skip ro a H (.normal,a,H):=⟨1,fun n hn=>by
 obtain⟨m,rfl⟩ :∃ m,n=m+1:=⟨n-1,by omega⟩
 rfl⟩
theorem Evs.ret{ro:Option Pos}{a:AAct}{H:AHeap} :Evs E .ret ro a H (.ret,a,H):=⟨1,fun n hn=>by
 obtain⟨m,rfl⟩ :∃ m,n=m+1:=⟨n-1,by omega⟩
 rfl⟩
theorem Evs.exit{ro:Option Pos}{a:AAct}{H:AHeap}{i:Nat} :Evs E (.exit i) ro a H (.exit i,a,H):=⟨1,fun n hn=>by
 obtain⟨m,rfl⟩ :∃ m,n=m+1:=⟨n-1,by omega⟩
 rfl⟩
theorem Evs.region{ro:Option Pos}{a:AAct}{H:AHeap}{l:List AOper}{r:AExit×AAct×AHeap}(h:Ops E a.ds l a.t H r) :Evs E (.region l) ro a H r:=by
 obtain⟨n0,h⟩:=h
 refine⟨n0+1,fun n hn=>?_⟩
 obtain⟨m,rfl⟩ :∃ m,n=m+1:=⟨n-1,by omega⟩
 exact h m (by omega)
theorem Evs.draw{ro:Option Pos}{a:AAct}{H:AHeap}{l:List ADraw}{r:AExit×AAct×AHeap}(h:Drs E a.ds l a.t H [] r) :Evs E (.draw l) ro a H r:=by
 obtain⟨n0,h⟩:=h
 refine⟨n0+1,fun n hn=>?_⟩
 obtain⟨m,rfl⟩ :∃ m,n=m+1:=⟨n-1,by omega⟩
 exact h m (by omega)
theorem Evs.seq{x y:ACode}{ro:Option Pos}{a a':AAct}{H H':AHeap}{r:AExit×AAct×AHeap}(h:Evs E x ro a H (.normal,a',H'))(k:Evs E y ro a' H' r) :Evs E (.seq x y) ro a H r:=by
 obtain⟨n0,h⟩:=h
 obtain⟨n1,k⟩:=k
 refine⟨n0+n1+1,fun n hn=>?_⟩
 obtain⟨m,rfl⟩ :∃ m,n=m+1:=⟨n-1,by omega⟩
 simp only[ev]
 rw[h m (by omega)]
 exact k m (by omega)
theorem Evs.seq_ret{x y:ACode}{ro:Option Pos}{a a':AAct}{H H':AHeap}(h:Evs E x ro a H (.ret,a',H')) :Evs E (.seq x y) ro a H (.ret,a',H'):=by
 obtain⟨n0,h⟩:=h
 refine⟨n0+1,fun n hn=>?_⟩
 obtain⟨m,rfl⟩ :∃ m,n=m+1:=⟨n-1,by omega⟩
 simp only[ev]
 rw[h m (by omega)]
theorem Evs.seq_exit{x y:ACode}{ro:Option Pos}{a a':AAct}{H H':AHeap}{i:Nat}(h:Evs E x ro a H (.exit i,a',H')) :Evs E (.seq x y) ro a H (.exit i,a',H'):=by
 obtain⟨n0,h⟩:=h
 refine⟨n0+1,fun n hn=>?_⟩
 obtain⟨m,rfl⟩ :∃ m,n=m+1:=⟨n-1,by omega⟩
 simp only[ev]
 rw[h m (by omega)]
theorem Evs.cond_true{x:AOpnd}{c1 c2:ACode}{ro:Option Pos}{a:AAct}{H:AHeap}{r:AExit×AAct×AHeap}(hx:x.ev a.t=.bool true)(h:Evs E c1 ro a H r) :Evs E (.cond x c1 c2) ro a H r:=by
 obtain⟨n0,h⟩:=h
 refine⟨n0+1,fun n hn=>?_⟩
 obtain⟨m,rfl⟩ :∃ m,n=m+1:=⟨n-1,by omega⟩
 simp only[ev,hx]
 exact h m (by omega)
theorem Evs.cond_false{x:AOpnd}{c1 c2:ACode}{ro:Option Pos}{a:AAct}{H:AHeap}{r:AExit×AAct×AHeap}(hx:x.ev a.t=.bool false)(h:Evs E c2 ro a H r) :Evs E (.cond x c1 c2) ro a H r:=by
 obtain⟨n0,h⟩:=h
 refine⟨n0+1,fun n hn=>?_⟩
 obtain⟨m,rfl⟩ :∃ m,n=m+1:=⟨n-1,by omega⟩
 simp only[ev,hx]
 exact h m (by omega)
theorem Evs.block{b:ACode}{i:Nat}{ro:Option Pos}{a a':AAct}{H H':AHeap}(h:Evs E b ro a H (.normal,a',H')) :Evs E (.block i b) ro a H (.normal,a',H'):=by
 obtain⟨n0,h⟩:=h
 refine⟨n0+1,fun n hn=>?_⟩
 obtain⟨m,rfl⟩ :∃ m,n=m+1:=⟨n-1,by omega⟩
 simp only[ev]
 rw[h m (by omega)]
theorem Evs.block_exit{b:ACode}{i:Nat}{ro:Option Pos}{a a':AAct}{H H':AHeap}(h:Evs E b ro a H (.exit i,a',H')) :Evs E (.block i b) ro a H (.normal,a',H'):=by
 obtain⟨n0,h⟩:=h
 refine⟨n0+1,fun n hn=>?_⟩
 obtain⟨m,rfl⟩ :∃ m,n=m+1:=⟨n-1,by omega⟩
 simp only[ev]
 rw[h m (by omega)]
 simp
theorem Evs.block_ret{b:ACode}{i:Nat}{ro:Option Pos}{a a':AAct}{H H':AHeap}(h:Evs E b ro a H (.ret,a',H')) :Evs E (.block i b) ro a H (.ret,a',H'):=by
 obtain⟨n0,h⟩:=h
 refine⟨n0+1,fun n hn=>?_⟩
 obtain⟨m,rfl⟩ :∃ m,n=m+1:=⟨n-1,by omega⟩
 simp only[ev]
 rw[h m (by omega)]
theorem Evs.loop{b:ACode}{ro:Option Pos}{a a':AAct}{H H':AHeap}{r:AExit×AAct×AHeap}(h:Evs E b ro a H (.normal,a',H'))(k:Evs E (.loop b) ro a' H' r) :Evs E (.loop b) ro a H r:=by
 obtain⟨n0,h⟩:=h
 obtain⟨n1,k⟩:=k
 refine⟨n0+n1+1,fun n hn=>?_⟩
 obtain⟨m,rfl⟩ :∃ m,n=m+1:=⟨n-1,by omega⟩
 simp only[ev]
 rw[h m (by omega)]
 exact k m (by omega)
theorem Evs.loop_exit{b:ACode}{ro:Option Pos}{a a':AAct}{H H':AHeap}{i:Nat}(h:Evs E b ro a H (.exit i,a',H')) :Evs E (.loop b) ro a H (.exit i,a',H'):=by
 obtain⟨n0,h⟩:=h
 refine⟨n0+1,fun n hn=>?_⟩
 obtain⟨m,rfl⟩ :∃ m,n=m+1:=⟨n-1,by omega⟩
 simp only[ev]
 rw[h m (by omega)]
theorem Evs.loop_ret{b:ACode}{ro:Option Pos}{a a':AAct}{H H':AHeap}(h:Evs E b ro a H (.ret,a',H')) :Evs E (.loop b) ro a H (.ret,a',H'):=by
 obtain⟨n0,h⟩:=h
 refine⟨n0+1,fun n hn=>?_⟩
 obtain⟨m,rfl⟩ :∃ m,n=m+1:=⟨n-1,by omega⟩
 simp only[ev]
 rw[h m (by omega)]
def z5u:AOp->Bool
 | .defer _ _=>false
 | _=>true
theorem z5h{R:Type}(v:AVal)(k:AVal->R) :z5i v k=k v:=z3l v k
theorem Ops.nil{ds:List ADef}{t:PT AVal}{H:AHeap} :Ops E ds [] t H (.normal,⟨t,ds⟩,H):=⟨0,fun _ _=>rfl⟩
theorem z4n{rec:Rec}{ds:List ADef}{o:AOper}{l:List AOper}{t:PT AVal}{H H':AHeap}{v:AVal}(hw:z0y t o.guard=some true)(hd:z5u o.op=true)(hx:z1o E rec t H o.op=some (v,H')) :
  opsA E rec ds (o::l) t H=opsA E rec ds l (tput t o.dst v) H':=by
 rw[opsA,hw]
 cases ho:o.op<;>simp only[ho,z5u]at hd hx ⊢ <;> first | (rw[hx];simp only[z5h]) | exact absurd hd (by decide)
theorem Ops.go{ds:List ADef}{o:AOper}{l:List AOper}{t:PT AVal}{H H':AHeap}{v:AVal}{r:AExit×AAct×AHeap}(hw:z0y t o.guard=some true)(hd:z5u o.op=true)(hx:∀ rec,z1o E rec t H o.op=some (v,H'))
  (k:Ops E ds l (tput t o.dst v) H' r) :Ops E ds (o::l) t H r:=by
 obtain⟨n0,k⟩:=k
 exact⟨n0,fun n hn=>by rw[z4n hw hd (hx _)];exact k n hn⟩
theorem Ops.not{ds:List ADef}{o:AOper}{l:List AOper}{t:PT AVal}{H:AHeap}{r:AExit×AAct×AHeap}(hw:z0y t o.guard=some false)
  (k:Ops E ds l (tput t o.dst .undef) H r) :Ops E ds (o::l) t H r:=by
 obtain⟨n0,k⟩:=k
 exact⟨n0,fun n hn=>by rw[opsA,hw];exact k n hn⟩
theorem Ops.call{ds:List ADef}{d:Option Pos}{g:Option (Pos×Bool)}{f:FuncId}{args:List AOpnd}{l:List AOper}{t:PT AVal}{H H':AHeap}{v:AVal}{r:AExit×AAct×AHeap}(hw:z0y t g=some true)(hx:z0f E f (evs t args) H v H')
  (k:Ops E ds l (tput t d v) H' r) :Ops E ds (⟨d,.callF f args,g⟩::l) t H r:=by
 obtain⟨n0,k⟩:=k
 obtain⟨n1,hx⟩:=hx
 exact⟨n0+n1,fun n hn=>by rw[z4n (E:=E) hw rfl (show z1o E (ev E n) t H (.callF f args)=some (v,H')from hx n (by omega))];exact k n (by omega)⟩
theorem Ops.callV{ds:List ADef}{d:Option Pos}{g:Option (Pos×Bool)}{x:AOpnd}{args:List AOpnd}{l:List AOper}{t:PT AVal}{H H':AHeap}{v:AVal}{r:AExit×AAct×AHeap}(hw:z0y t g=some true)(hx:∃ n0,∀ n,n0<=n->z47 E (ev E n) (x.ev t) (evs t args) H=some (v,H'))
  (k:Ops E ds l (tput t d v) H' r) :Ops E ds (⟨d,.callV x args,g⟩::l) t H r:=by
 obtain⟨n0,k⟩:=k
 obtain⟨n1,hx⟩:=hx
 exact⟨n0+n1,fun n hn=>by rw[z4n (E:=E) hw rfl (show z1o E (ev E n) t H (.callV x args)=some (v,H')from hx n (by omega))];exact k n (by omega)⟩
theorem Drs.nil{ds:List ADef}{t:PT AVal}{H:AHeap}{seen:List Seen} :Drs E ds [] t H seen (.normal,⟨t,ds⟩,H):=⟨0,fun _ _=>rfl⟩
theorem Drs.quiet{ds:List ADef}{o:AOper}{i b m h:Nat}{l:List ADraw}{t:PT AVal}{H:AHeap}{seen:List Seen}{v:AVal}{r:AExit×AAct×AHeap}(hw:z0y t o.guard=some true)(hx:Go.Am.quiet t H o.op=some v)
  (k:Drs E ds l (tput t o.dst v) H (⟨t,o.op,v,b⟩::seen) r) :Drs E ds (⟨o,0,i,b,m,h⟩::l) t H seen r:=by
 obtain⟨n0,k⟩:=k
 refine⟨n0,fun n hn=>?_⟩
 rw[z3t]
 simp only[hw,hx,z5h]
 exact k n hn
theorem Drs.new{ds:List ADef}{o:AOper}{i b m h:Nat}{l:List ADraw}{t:PT AVal}{H H':AHeap}{seen:List Seen}{v:AVal}{r:AExit×AAct×AHeap}(hw:z0y t o.guard=some true)(hx:z01 t H o.op=some (v,H'))
  (k:Drs E ds l (tput t o.dst v) H' seen r) :Drs E ds (⟨o,1,i,b,m,h⟩::l) t H seen r:=by
 obtain⟨n0,k⟩:=k
 refine⟨n0,fun n hn=>?_⟩
 rw[z3t]
 simp only[hw,hx]
 exact k n hn
theorem Drs.loud{ds:List ADef}{o:AOper}{i b m h:Nat}{l:List ADraw}{t:PT AVal}{H H':AHeap}{seen seen':List Seen}{v:AVal}{r:AExit×AAct×AHeap}(hw:z0y t o.guard=some true)(hx:∃ n0,∀ n,n0<=n->z1o E (ev E n) t H o.op=some (v,H'))(hs:z3u h H' seen=some seen')
  (k:Drs E ds l (tput t o.dst v) H' seen' r) :Drs E ds (⟨o,2,i,b,m,h⟩::l) t H seen r:=by
 obtain⟨n0,k⟩:=k
 obtain⟨n1,hx⟩:=hx
 refine⟨n0+n1,fun n hn=>?_⟩
 rw[z3t]
 simp only[hw]
 rw[hx n (by omega)]
 simp only[hs,z5h]
 exact k n (by omega)
theorem z7r.of{f:FuncId}{fi:AFun}(hf:Nat.blt f 2147483648=true)(hg:PT.get (Pos.ofNat f) E.fns=some fi){args:List AVal}{t0:PT AVal}(ha:z48 args 0 fi.ntmps .l=some t0){H H':AHeap}{ex:AExit}{t:PT AVal}{v:AVal}(hex:ex=.normal\/ex=.ret)
  (hb:Evs E fi.body none ⟨t0,[]⟩ H (ex,⟨t,[]⟩,H')) (hr:(match z0u t H' fi.results with | some [v]=>some v | some l=>some (.tup l) | none=>none)=some v) :z7r E f args H v H':=by
 obtain⟨n0,hb⟩:=hb
 refine⟨n0,fun n hn=>?_⟩
 unfold callF
 rw[hf,hg]
 simp only[j0c,ha]
 rw[hb n hn]
 rcases hex with rfl | rfl <;>
 .simp only[z55]
  split at hr
  .rename_i heq;simp only[heq];cases hr;rfl
  .rename_i heq;cases hr;simp only[heq]
  .cases hr
theorem z0f.of{f:FuncId}(hn:PT.get (Pos.ofNat f) E.sums=none){args:List AVal}{H H':AHeap}{v:AVal}(h:z7r E f args H v H') :z0f E f args H v H':=by
 obtain⟨n0,h⟩:=h
 refine⟨n0,fun n hm=>?_⟩
 unfold z9p
 rw[hn]
 cases hb:Nat.blt f 2147483648<;>simp only<;>exact h n hm
end
structure Keep (n:Nat) (H H':AHeap) :Prop where
 nx:H.nx.toNat<=H'.nx.toNat
 get:∀ p:Pos,p.toNat<n->PT.get p H'.t=PT.get p H.t
theorem Keep.refl(n:Nat)(H:AHeap) :Keep n H H:=⟨lr,fun _ _=>rfl⟩
theorem Keep.trans{n:Nat}{H H1 H2:AHeap}(h:Keep n H H1)(k:Keep n H1 H2) :Keep n H H2:=⟨Nat.le_trans h.nx k.nx,fun p hp=>(k.get p hp).trans (h.get p hp)⟩
theorem Keep.mono{n m:Nat}{H H':AHeap}(h:Keep n H H')(hm:m<=n) :Keep m H H':=⟨h.nx,fun p hp=>h.get p (by omega)⟩
theorem z0d{H:AHeap}{x:AObj} :Keep H.nx.toNat H (H.new x).2:=by
 refine⟨?_,fun p hp=>?_⟩
 .show _<=H.nx.succ.toNat
  rw[Pos.toNat_succ];omega
 .show PT.get p (PT.set H.nx (some x) H.t)=_
  rw[PT.get_set_other _ _ _ _ (fun e=>by subst e;omega)]
theorem get_new{H:AHeap}{x:AObj} :PT.get H.nx (H.new x).2.t=some x:=PT.get_set_same _ _ _
theorem z0s{H:AHeap}{b:Pos}{x:AObj}{n:Nat}(h:n<=b.toNat) :Keep n H (H.upd b x) :=
 ⟨lr,fun p hp=>PT.get_set_other _ _ _ _ (fun e=>by subst e;omega)⟩
theorem y2d:∀ (n:Nat) (l:List AVal),n<=l.length->z9g n l=some (l.drop n)
 | 0,_,_=>rfl
 | n+1,[],h=>by simp at h
 | n+1,_::l,h=>y2d n l (by simpa using h)
theorem y15:∀ (n:Nat) (l:List AVal),n<=l.length->z6p n l=some (l.take n)
 | 0,_,_=>by simp[z6p]
 | n+1,[],h=>by simp at h
 | n+1,a::l,h=>by simp[z6p,y15 n l (by simpa using h)]
theorem z27{l:List AVal}{o n:Nat}(h:o+n<=l.length) :lsub l o n=some ((l.drop o).take n):=by
 unfold lsub
 rw[y2d o l (by omega)]
 exact y15 n _ (by simp;omega)
theorem y2a:∀ (vs l:List AVal),vs.length<=l.length->z6q vs l=some (vs++l.drop vs.length)
 | [],l,_=>by simp[z6q]
 | v::vs,[],h=>by simp at h
 | v::vs,a::l,h=>by simp[z6q,y2a vs l (by simpa using h)]
theorem z36:∀ (l:List AVal) (o:Nat) (vs:List AVal),o+vs.length<=l.length->lput l o vs=some (l.take o++vs++l.drop (o+vs.length))
 | l,0,vs,h=>by
  have:=y2a vs l (by omega)
  cases l<;>simpa[lput]using this
 | [],o+1,vs,h=>by simp at h
 | a::l,o+1,vs,h=>by
  have:=z36 l o vs (by simp at h;omega)
  simp only[lput,this,List.take_succ_cons,List.cons_append]
  rw[show o+1+vs.length=(o+vs.length)+1 by omega,List.drop_succ_cons]
theorem off1(o n:Nat) :Nat.add o (Nat.mul n 1)=o+n:=by show o+n*1=_;omega
theorem nadd(a b:Nat) :Nat.add a b=a+b:=rfl
theorem nsub(a b:Nat) :Nat.sub a b=a-b:=rfl
theorem nmul(a b:Nat) :Nat.mul a b=a*b:=rfl
theorem z4u{a b:Nat}(h:a<=b) :Nat.ble a b=true:=Nat.ble_eq_true_of_le h
theorem k3d{a b:Nat}(h:b<a) :Nat.ble a b=false:=by
 cases hb:Nat.ble a b with
 | false=>rfl
 | true=>have:=Nat.le_of_ble_eq_true hb;omega
theorem y41{a b:Nat}(h:a<b) :Nat.blt a b=true:=by rw[Nat.blt_eq];exact h
theorem k3c{a b:Nat}(h:b<=a) :Nat.blt a b=false:=by
 cases hb:Nat.blt a b with
 | false=>rfl
 | true=>rw[Nat.blt_eq]at hb;omega
theorem j20(a:Nat) :Nat.beq a a=true:=Nat.beq_refl a
theorem j0k{a b:Nat}(h:a≠b) :Nat.beq a b=false:=by
 cases hb:Nat.beq a b with
 | false=>rfl
 | true=>exact absurd (Nat.eq_of_beq_eq_true hb) h
def z4s(n:Nat)(H:AHeap)(v:AVal)(l:List AVal) :Prop :=
 (v=.snil/\l=[])\/∃ b o cap sz,v=.sl b o l.length cap sz/\z0t H b o l.length=some l/\b.toNat<n/\(sz=0\/sz=1)/\l.length<=cap
theorem z4s.keep{n m:Nat}{H H':AHeap}{v:AVal}{l:List AVal}(h:z4s n H v l)(k:Keep m H H')(hm:n<=m) :z4s n H' v l:=by
 rcases h with h | ⟨b,o,cap,sz,e,h,hb⟩
 .exact .inl h
 .refine .inr ⟨b,o,cap,sz,e,?_,hb⟩
  unfold z0t at h ⊢
  rw[k.get b (by omega)]
  exact h
theorem z4s.mono{n m:Nat}{H:AHeap}{v:AVal}{l:List AVal}(h:z4s n H v l)(hm:n<=m) :z4s m H v l:=by
 rcases h with h | ⟨b,o,cap,sz,e,h,hb⟩
 .exact .inl h
 .exact .inr ⟨b,o,cap,sz,e,h,by omega⟩
theorem z4s.len{n:Nat}{H:AHeap}{v:AVal}{l:List AVal}(h:z4s n H v l){t:PT AVal}{x:AOpnd}(hx:x.ev t=v) :quiet t H (.len 1 x)=some (.int .i64 (.ofNat l.length)):=by
 rcases h with⟨rfl,rfl⟩ | ⟨b,o,cap,sz,rfl,h,hb⟩<;>simp[quiet,hx]
theorem z4s.idx{n:Nat}{H:AHeap}{v:AVal}{l:List AVal}(h:z4s n H v l){i:Nat}(hi:i<l.length) :∃ b o cap sz,v=.sl b o l.length cap sz/\z04 H b (o+i)=some l[i]:=by
 rcases h with⟨rfl,rfl⟩ | ⟨b,o,cap,sz,rfl,h,hb⟩
 .simp at hi
 .refine⟨b,o,cap,sz,rfl,?_⟩
  have:=j3z h (i:=i) (List.getElem?_eq_getElem hi)
  rw[off1]at this
  exact this
def q0h(n:Nat)(H:AHeap)(v:AVal)(l:List AVal) :Prop :=
 (v=.snil/\l=[])\/∃ b,v=.sl b 0 l.length l.length 1/\PT.get b H.t=some (.cells l true false)/\n<=b.toNat/\b.toNat<H.nx.toNat
theorem q0h.reads{n:Nat}{H:AHeap}{v:AVal}{l:List AVal}(h:q0h n H v l) :z4s H.nx.toNat H v l:=by
 rcases h with h | ⟨b,e,h,h1,h2⟩
 .exact .inl h
 .refine .inr ⟨b,0,_,_,e,?_,h2,.inr rfl,lr⟩
  unfold z0t
  rw[h]
  simp only
  rw[z27 (by omega)]
  simp
theorem q0h.keep{n:Nat}{H H':AHeap}{v:AVal}{l:List AVal}(h:q0h n H v l)(k:Keep H.nx.toNat H H') :q0h n H' v l:=by
 rcases h with h | ⟨b,e,h,h1,h2⟩
 .exact .inl h
 .exact .inr ⟨b,e,by rw[k.get b h2];exact h,h1,Nat.lt_of_lt_of_le h2 k.nx⟩
def Room(n:Nat)(H:AHeap)(v:AVal)(l:List AVal)(cap:Nat) :Prop :=
 ∃ b rest,v=.sl b 0 l.length cap 0/\PT.get b H.t=some (.cells (l++rest) false false)/\l.length+rest.length=cap/\n<=b.toNat/\b.toNat<H.nx.toNat
theorem Room.reads{n:Nat}{H:AHeap}{v:AVal}{l:List AVal}{cap:Nat}(h:Room n H v l cap) :z4s H.nx.toNat H v l:=by
 obtain⟨b,rest,e,h,hc,h1,h2⟩:=h
 refine .inr ⟨b,0,_,_,e,?_,h2,.inl rfl,by omega⟩
 unfold z0t
 rw[h]
 simp only
 rw[z27 (by simp)]
 simp
theorem Room.keep{n:Nat}{H H':AHeap}{v:AVal}{l:List AVal}{cap:Nat}(h:Room n H v l cap)(k:Keep H.nx.toNat H H') :Room n H' v l cap:=by
 obtain⟨b,rest,e,h,hc,h1,h2⟩:=h
 exact⟨b,rest,e,by rw[k.get b h2];exact h,hc,h1,Nat.lt_of_lt_of_le h2 k.nx⟩
end Go.Am
end
