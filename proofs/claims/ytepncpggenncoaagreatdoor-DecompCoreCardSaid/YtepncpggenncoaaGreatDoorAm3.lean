import Derived.Test.YtepncpggenncoaaGreatDoorAm2
import Derived.RangeFuncLeaves
import Derived.OrdersIn
import Derived.Laws.Cells
import Derived.Laws.IdiomCopy
import Derived.Below
import Derived.ChangeKeysEq
import Derived.Laws.StructEq
set_option linter.unusedSimpArgs false
set_option linter.unusedVariables false
set_option maxHeartbeats 8000000
namespace Go.Am
open Go Go.RowKit
structure Place where
 c:Nat
 s:Nat
 k:Nat
abbrev Emb:=Pos->Option Place
mutual
def VRel(φ:Emb) :AVal->Value->Prop
 | .bool b,v=>v=.bool b
 | .int k n,v=>v=.int k n
 | .str s,v=>v=.string ⟨(s.map UInt8.ofNat).toArray⟩/\∀ x∈s,x<256
 | .pnil,v=>v=.pointer none
 | .ptr b o,v=>∃ x,φ b=some x/\v=.pointer (some ⟨x.c,x.s+o,none⟩)
 | .snil,v=>v=.slice none 0 0
 | .sl b o len cap sz,v=>∃ x a cap',φ b=some x/\v=.slice (some a) len cap'/\len<=cap/\cap<=cap' ∧
   ((sz=0/\cap'=cap/\(a=⟨x.c,x.s+o,none⟩\/cap=0))\/(sz≠0/\a=⟨x.c,x.s+o,none⟩/\x.s+o+cap'*sz<=x.k/\cap'<=9223372036854775807)\/(sz≠0/\cap'=0))
 | .mnil,v=>v=.map none
 | .map b,v=>∃ x,φ b=some x/\v=.map (some x.c)
 | .fnil,v=>v=.nilFunc
 | .func f a c,v=>∃ a' c',v=.func (.func f) a' c'/\LRel φ a a'.toList/\LRel φ c c'.toList
 | .yld l,v=>∃ x,φ l=some x/\v=.func (.yield x.c) #[] #[]
 | .inil,v=>v=.nilIface
 | .iface t a,v=>∃ u,v=.iface t u/\VRel φ a u
 | .agg l,v=>∃ vs:Array Value,v=.agg vs/\LRel φ l vs.toList
 | .tup l,v=>∃ vs:Array Value,v=.tuple vs/\LRel φ l vs.toList
 | .any,_=>True
def LRel(φ:Emb) :List AVal->List Value->Prop
 | [],l=>l=[]
 | a::as,l=>∃ v vs,l=v::vs/\VRel φ a v/\LRel φ as vs
end
def Emb.le(φ φ':Emb) :Prop:=∀ p x,φ p=some x->φ' p=some x
theorem Emb.le_refl(φ:Emb) :φ.le φ:=fun _ _ h=>h
theorem Emb.le_trans{a b c:Emb}(h:a.le b)(h':b.le c) :a.le c:=fun p x e=>h' p x (h p x e)
mutual
theorem VRel.mono{φ φ':Emb}(h:φ.le φ') :∀ (a:AVal) (v:Value),VRel φ a v->VRel φ' a v
 | .bool b,v,e=>e
 | .int k n,v,e=>e
 | .str s,v,e=>e
 | .pnil,v,e=>e
 | .ptr b o,v,e=>by obtain⟨x,h1,h2⟩:=e;exact⟨x,h _ _ h1,h2⟩
 | .snil,v,e=>e
 | .sl b o len cap sz,v,e=>by obtain⟨x,a,c,h1,h2⟩:=e;exact⟨x,a,c,h _ _ h1,h2⟩
 | .mnil,v,e=>e
 | .map b,v,e=>by obtain⟨x,h1,h2⟩:=e;exact⟨x,h _ _ h1,h2⟩
 | .fnil,v,e=>e
 | .func f a c,v,e=>by
  obtain⟨a',c',h1,h2,h3⟩:=e
  exact⟨a',c',h1,LRel.mono h a _ h2,LRel.mono h c _ h3⟩
 | .yld l,v,e=>by obtain⟨x,h1,h2⟩:=e;exact⟨x,h _ _ h1,h2⟩
 | .inil,v,e=>e
 | .iface t a,v,e=>by obtain⟨u,h1,h2⟩:=e;exact⟨u,h1,VRel.mono h a u h2⟩
 | .agg l,v,e=>by obtain⟨u,h1,h2⟩:=e;exact⟨u,h1,LRel.mono h l _ h2⟩
 | .tup l,v,e=>by obtain⟨u,h1,h2⟩:=e;exact⟨u,h1,LRel.mono h l _ h2⟩
 | .any,v,e=>trivial
theorem LRel.mono{φ φ':Emb}(h:φ.le φ') :∀ (a:List AVal) (v:List Value),LRel φ a v->LRel φ' a v
 | [],v,e=>e
 | a::as,v,e=>by
  obtain⟨u,us,h1,h2,h3⟩:=e
  exact⟨u,us,h1,VRel.mono h a u h2,LRel.mono h as us h3⟩
end
section
variable{φ:Emb}
theorem LRel.length:∀ {l:List AVal} {vs:List Value},LRel φ l vs->vs.length=l.length
 | [],vs,h=>by simp only[LRel]at h;simp[h]
 | a::l,vs,h=>by
  obtain⟨v,ws,rfl,_,h3⟩:=h
  simp[LRel.length h3]
theorem LRel.get:∀ {l:List AVal} {vs:List Value},LRel φ l vs->∀ {i:Nat} {a:AVal},l[i]? = some a->∃ v,vs[i]? = some v/\VRel φ a v
 | [],vs,h,i,a,e=>by simp at e
 | b::l,vs,h,0,a,e=>by
  obtain⟨v,ws,rfl,h2,_⟩:=h
  simp at e
  exact⟨v,rfl,e▸h2⟩
 | b::l,vs,h,i+1,a,e=>by
  obtain⟨v,ws,rfl,_,h3⟩:=h
  obtain⟨u,hu⟩:=LRel.get h3 (i:=i) (a:=a) (by simpa using e)
  exact⟨u,by simpa using hu.1,hu.2⟩
theorem LRel.of_get:∀ {l:List AVal} {vs:List Value},vs.length=l.length->(∀ (i:Nat) (a:AVal) (v:Value),l[i]? = some a->vs[i]? = some v->VRel φ a v)->LRel φ l vs
 | [],vs,hl,_=>by simpa[LRel]using hl
 | a::l,[],hl,_=>by simp at hl
 | a::l,v::vs,hl,h=>⟨v,vs,rfl,h 0 a v rfl rfl,LRel.of_get (by simpa using hl) fun i a v e1 e2=>h (i+1) a v (by simpa using e1) (by simpa using e2)⟩
theorem LRel.append{l m:List AVal}{vs ws:List Value}(h:LRel φ l vs)(h':LRel φ m ws) :LRel φ (l++m) (vs++ws):=by
 induction l generalizing vs with
 | nil=>simp only[LRel]at h;subst h;exact h'
 | cons a l ih =>
  obtain⟨v,us,rfl,h2,h3⟩:=h
  exact⟨v,us++ws,rfl,h2,ih h3⟩
theorem LRel.take{l:List AVal}{vs:List Value}(h:LRel φ l vs)(n:Nat) :LRel φ (l.take n) (vs.take n):=by
 induction l generalizing vs n with
 | nil=>simp only[LRel]at h;subst h;simp[LRel]
 | cons a l ih =>
  obtain⟨v,us,rfl,h2,h3⟩:=h
  cases n with
  | zero=>simp[LRel]
  | succ n=>exact⟨v,us.take n,rfl,h2,ih h3 n⟩
theorem LRel.drop{l:List AVal}{vs:List Value}(h:LRel φ l vs)(n:Nat) :LRel φ (l.drop n) (vs.drop n):=by
 induction l generalizing vs n with
 | nil=>simp only[LRel]at h;subst h;simp[LRel]
 | cons a l ih =>
  obtain⟨v,us,rfl,h2,h3⟩:=h
  cases n with
  | zero=>exact⟨v,us,rfl,h2,h3⟩
  | succ n=>exact ih h3 n
theorem VRel.undef:VRel φ .undef undef:=⟨#[],rfl,rfl⟩
end
def TRel(φ:Emb)(nt:Nat)(t:PT AVal)(tmps:Array Value) :Prop :=
 tmps.size=nt/\nt<2^31/\∀ i,i<2^31->VRel φ (tget t (Pos.ofNat i)) (tmps.getD i Go.undef)
theorem TRel.mono{φ φ':Emb}(h:φ.le φ'){nt:Nat}{t:PT AVal}{tmps:Array Value}(r:TRel φ nt t tmps) :TRel φ' nt t tmps :=
 ⟨r.1,r.2.1,fun i hi=>VRel.mono h _ _ (r.2.2 i hi)⟩
theorem TRel.put{φ:Emb}{nt:Nat}{t:PT AVal}{a:Act}(r:TRel φ nt t a.tmps){d:Option Tmp}(hd:∀ x,d=some x->x<nt){v:AVal}{u:Value}(hv:VRel φ v u) :
  TRel φ nt (tput t (d.map Pos.ofNat) v) (a.put d u).tmps:=by
 cases d with
 | none=>exact r
 | some x =>
  have hx:=hd x rfl
  refine⟨by simp[Act.put,r.1],r.2.1,fun i hi=>?_⟩
  simp only[Act.put,Option.map_some,tput]
  by_cases e:x=i
  .subst e
   have:(a.tmps.setIfInBounds x u).getD x Go.undef=u:=by
    have hs:x<a.tmps.size:=by rw[r.1];exact hx
    simp[hs]
   rw[this]
   unfold tget
   rw[PT.get_set_same]
   exact hv
  .have hne:Pos.ofNat x≠Pos.ofNat i:=fun h=>e (Pos.ofNat_inj (Nat.lt_trans hx r.2.1) hi h)
   have h1:(a.tmps.setIfInBounds x u).getD i Go.undef=a.tmps.getD i Go.undef:=by
    simp[Array.getElem?_setIfInBounds_ne e]
   rw[h1]
   have h2:=r.2.2 i hi
   unfold tget at h2 ⊢
   rwa [PT.get_set_other _ _ _ _ hne]
def k03:AJump->Option Code
 | .none=>Option.none
 | .ret=>some .ret
 | .exit id=>some (.exit id)
def j5a(T:Tys)(φ:Emb)(r:ALoop)(l:Loop) :Prop :=
 l.state=r.state/\l.pending=k03 r.pending/\TRel φ l.tmps.size r.tmps l.tmps/\r.params=l.params.toList.map Pos.ofNat/\(∀ x∈l.params.toList,x<l.tmps.size) ∧
 r.assign=comp T l.tmps.size true l.assign/\r.body=comp T l.tmps.size true l.body/\(∃ x,φ r.defers=some x/\l.defers=x.c)
def z6n(φ:Emb)(es:List (AVal×AVal))(es':Array MapEntry)(clock:Nat) :Prop :=
 (∃ l:List MapEntry,l.Perm es'.toList/\LRel φ (es.map (·.1)) (l.map (·.key))/\LRel φ (es.map (·.2)) (l.map (·.val))) ∧
 (es'.toList.map (·.born)).Nodup/\(∀ e∈es'.toList,e.born<clock)/\(es'.toList.map (·.key)).Nodup
def ORel(T:Tys)(φ:Emb)(B:Nat)(w:World) :AObj->Place->Prop
 | .cells l op ro,x=>∃ arr e lo hi,w.heap[x.c]? = some (.cells arr e (lo,hi))/\arr.size=x.k/\x.s+l.length<=x.k ∧
   (∀ i a,l[i]? = some a->∃ v,arr[x.s+i]? = some v/\VRel φ a v)/\(lo=hi\/x.k<=lo\/ro=true)/\(op=false->ro=false->hi<=lo/\x.s=0)/\(ro=false->B<=x.c)
 | .map es,x=>∃ es' clock,w.heap[x.c]? = some (.map es' clock)/\z6n φ es es' clock/\B<=x.c
 | .loop r,x=>∃ l,w.heap[x.c]? = some (.loop l)/\j5a T φ r l/\B<=x.c
 | .dfr op,x=>w.heap[x.c]? = some (.deferred (if op then some []else none))/\B<=x.c
 | .raw o,x=>w.heap[x.c]? = some o
 | .rmap es,x=>∃ es' clock,w.heap[x.c]? = some (.map es' clock)/\z6n φ es es' clock
theorem ORel.mono{T:Tys}{φ φ':Emb}(h:φ.le φ'){B:Nat}{w w':World}{o:AObj}{x:Place}(r:ORel T φ B w o x)(hw:w'.heap[x.c]? = w.heap[x.c]?) :ORel T φ' B w' o x:=by
 cases o with
 | cells l op ro =>
  obtain⟨arr,e,lo,hi,h1,h2,h3,h4,h5⟩:=r
  exact⟨arr,e,lo,hi,hw.trans h1,h2,h3,fun i a e=>let ⟨v,e1,e2⟩:=h4 i a e;⟨v,e1,VRel.mono h _ _ e2⟩,h5⟩
 | map es =>
  obtain⟨es',clock,h1,⟨⟨l,p1,p2,p3⟩,h3⟩,h4⟩:=r
  exact⟨es',clock,hw.trans h1,⟨⟨l,p1,LRel.mono h _ _ p2,LRel.mono h _ _ p3⟩,h3⟩,h4⟩
 | loop q =>
  obtain⟨l,h1,⟨a1,a2,a3,a4,a5,a6,a7,y,a8,a9⟩,h4⟩:=r
  exact⟨l,hw.trans h1,⟨a1,a2,a3.mono h,a4,a5,a6,a7,y,h _ _ a8,a9⟩,h4⟩
 | dfr op=>exact⟨hw.trans r.1,r.2⟩
 | raw o=>exact hw.trans r
 | rmap es =>
  obtain⟨es',clock,h1,⟨⟨l,p1,p2,p3⟩,h3⟩⟩:=r
  exact⟨es',clock,hw.trans h1,⟨⟨l,p1,LRel.mono h _ _ p2,LRel.mono h _ _ p3⟩,h3⟩⟩
structure HRel (T:Tys) (B:Nat) (φ:Emb) (H:AHeap) (w:World) :Prop where
 obj:∀ p o x,PT.get p H.t=some o->φ p=some x->ORel T φ B w o x
 inj:∀ p q x y,p≠q->PT.get p H.t≠none->PT.get q H.t≠none->φ p=some x->φ q=some y->x.c≠y.c
 low:∀ p x,φ p=some x->p.toNat<H.nx.toNat/\x.c<w.heap.size
 dom:∀ p,PT.get p H.t≠none->p.toNat<H.nx.toNat
 base:B<=w.heap.size
 glob:∀ g,g<T.ng->∃ k,φ (Pos.ofNat g)=some ⟨g,0,k⟩
structure Ext (φ:Emb) (H:AHeap) (φ':Emb) (H':AHeap) :Prop where
 le:φ.le φ'
 old:∀ p,p.toNat<H.nx.toNat->φ p=none->φ' p=none/\PT.get p H'.t=PT.get p H.t
 nx:H.nx.toNat<=H'.nx.toNat
theorem Ext.refl(φ:Emb)(H:AHeap) :Ext φ H φ H:=⟨Emb.le_refl _,fun _ _ h=>⟨h,rfl⟩,lr⟩
theorem Ext.trans{a b c:Emb}{H H1 H2:AHeap}(h:Ext a H b H1)(h':Ext b H1 c H2) :Ext a H c H2 :=
 ⟨Emb.le_trans h.le h'.le,fun p hp e=>by
  obtain⟨e1,e2⟩:=h.old p hp e
  obtain⟨e3,e4⟩:=h'.old p (Nat.lt_of_lt_of_le hp h.nx) e1
  exact⟨e3,e4.trans e2⟩,Nat.le_trans h.nx h'.nx⟩
structure Sim (T:Tys) (B:Nat) (φ:Emb) (H:AHeap) (w:World) (φ':Emb) (H':AHeap) (w':World) :Prop where
 ext:Ext φ H φ' H'
 rel:HRel T B φ' H' w'
 below:Below B w w'
theorem Sim.refl{T:Tys}{B:Nat}{φ:Emb}{H:AHeap}{w:World}(h:HRel T B φ H w) :Sim T B φ H w φ H w:=⟨Ext.refl _ _,h,Below.refl _ _⟩
theorem Sim.trans{T:Tys}{B:Nat}{φ φ1 φ2:Emb}{H H1 H2:AHeap}{w w1 w2:World}(h:Sim T B φ H w φ1 H1 w1)(h':Sim T B φ1 H1 w1 φ2 H2 w2) :Sim T B φ H w φ2 H2 w2 :=
 ⟨h.ext.trans h'.ext,h'.rel,h.below.trans h'.below⟩
theorem HRel.drawn{T:Tys}{B:Nat}{φ:Emb}{H:AHeap}{w w':World}(h:HRel T B φ H w)(e:w'.heap=w.heap) :HRel T B φ H w' :=
 ⟨fun p o x h1 h2=>(h.obj p o x h1 h2).mono (Emb.le_refl _) (by rw[e]),h.inj,fun p x h1=>by rw[e];exact h.low p x h1,h.dom,by rw[e];exact h.base,h.glob⟩
theorem z24(c o n:Nat) :(⟨c,o,none⟩ :Addr).add n=⟨c,o+n,none⟩:=by
 unfold Addr.add;split<;>simp_all
section
variable{P:Program}{T:Tys}{B:Nat}{φ:Emb}{H:AHeap}{w:World}
theorem z4c{w:World}{c:Nat}{arr:Array Value}{e:TypeId}{lh:Nat×Nat}(h:w.heap[c]? = some (.cells arr e lh))(o:Nat) :
  w.cell? ⟨c,o,none⟩=arr[o]?:=by
 simp[World.cell?,h]
theorem j5g(hH:HRel T B φ H w){b:Pos}{x:Place}(hx:φ b=some x){o:Nat}{v:AVal}(h:z04 H b o=some v) :
  ∃ u,w.cell? ⟨x.c,x.s+o,none⟩=some u/\VRel φ v u:=by
 unfold z04 at h
 split at h
 .rename_i l op ro hb
  obtain⟨arr,e,lo,hi,h1,h2,h3,h4,h5⟩:=hH.obj b _ x hb hx
  rw[z5x]at h
  obtain⟨u,hu,hv⟩:=h4 o v h
  exact⟨u,by rw[z4c h1];exact hu,hv⟩
 .cases h
theorem z3z(hH:HRel T B φ H w){b:Pos}{x:Place}(hx:φ b=some x){o n:Nat}{l:List AVal}(h:z0t H b o n=some l) :
  ∃ us:List Value,us.length=n/\LRel φ l us/\(∀ j u,us[j]? = some u->w.cell? ⟨x.c,x.s+o+j,none⟩=some u) ∧
   (loadCells ⟨x.c,x.s+o,none⟩ n).run P w=.ok us.toArray w:=by
 unfold z0t at h
 split at h
 .rename_i m op ro hb
  obtain⟨arr,e,lo,hi,h1,h2,h3,h4,h5⟩:=hH.obj b _ x hb hx
  obtain⟨e1,e2⟩:=z9d h
  have hcell:∀ j u,((arr.toList.drop (x.s+o)).take n)[j]? = some u->w.cell? ⟨x.c,x.s+o+j,none⟩=some u:=by
   intro j u hj
   rw[z4c h1]
   rw[List.getElem?_take]at hj
   split at hj
   .rw[List.getElem?_drop]at hj
    simpa using hj
   .cases hj
  have hlen:((arr.toList.drop (x.s+o)).take n).length=n:=by
   simp
   omega
  refine⟨(arr.toList.drop (x.s+o)).take n,hlen,?_,hcell,?_⟩
  .apply LRel.of_get
   .rw[hlen,e1];simp;omega
   .intro i a v ha hv
    rw[e1]at ha
    rw[List.getElem?_take]at ha hv
    split at ha
    .rename_i hi'
     rw[if_pos hi']at hv
     rw[List.getElem?_drop]at ha hv
     obtain⟨u,hu,hr⟩:=h4 _ _ ha
     have:arr[x.s+(o+i)]? = some v:=by
      have:=hv
      rw[show x.s+o+i=x.s+(o+i)by omega]at this
      simpa using this
     rw[hu]at this
     cases this
     exact hr
    .cases ha
  .have:=run_loadCells_list (P:=P) w ⟨x.c,x.s+o,none⟩ ((arr.toList.drop (x.s+o)).take n) (fun j v hj=>by rw[z24];exact hcell j v hj)
   rw[hlen]at this
   exact this
 .cases h
theorem y4j{φ:Emb} :∀ {a:AVal} {v:Value},z1g a=true->VRel φ a v->v.oneCell'=true
 | .bool _,v,_,h=>by simp only[VRel]at h;subst h;rfl
 | .int _ _,v,_,h=>by simp only[VRel]at h;subst h;rfl
 | .str _,v,_,h=>by simp only[VRel]at h;rw[h.1];rfl
 | .pnil,v,_,h=>by simp only[VRel]at h;subst h;rfl
 | .ptr _ _,v,_,h=>by obtain⟨x,_,rfl⟩:=h;rfl
 | .snil,v,_,h=>by simp only[VRel]at h;subst h;rfl
 | .sl _ _ _ _ _,v,_,h=>by obtain⟨x,a,c,_,rfl,_⟩:=h;rfl
 | .mnil,v,_,h=>by simp only[VRel]at h;subst h;rfl
 | .map _,v,_,h=>by obtain⟨x,_,rfl⟩:=h;rfl
 | .fnil,v,_,h=>by simp only[VRel]at h;subst h;rfl
 | .func _ _ _,v,_,h=>by obtain⟨x,y,rfl,_⟩:=h;rfl
 | .yld _,v,_,h=>by obtain⟨x,_,rfl⟩:=h;rfl
 | .inil,v,_,h=>by simp only[VRel]at h;subst h;rfl
 | .iface _ _,v,_,h=>by obtain⟨x,rfl,_⟩:=h;rfl
 | .agg _,v,h,_=>by simp[z1g]at h
 | .tup _,v,h,_=>by simp[z1g]at h
 | .any,v,h,_=>by simp[z1g]at h
theorem z77{φ:Emb} :∀ {l:List AVal} {vs:List Value},z1l l=true->LRel φ l vs->∀ v∈vs,v.oneCell'=true
 | [],vs,_,h,v,hv=>by simp only[LRel]at h;subst h;cases hv
 | a::l,vs,hs,h,v,hv=>by
  obtain⟨u,us,rfl,h2,h3⟩:=h
  simp only[z1l]at hs
  split at hs
  .rename_i h1
   rcases List.mem_cons.1 hv with rfl | hv
   .exact y4j h1 h2
   .exact z77 hs h3 v hv
  .cases hs
theorem z5n(b:Nat) :∀ (vs:List Value) (o:Nat) (w:World) (c:Nat),c≠b->(w.setCells b o vs).heap[c]? = w.heap[c]?
 | [],_,_,_,_=>rfl
 | v::r,o,w,c,h=>by
  rw[World.setCells,z5n b r _ _ c h,Below.heap_setCell _ _ _ _ h]
theorem z3f(b:Nat) :∀ (vs:List Value) (o:Nat) (w:World),(w.setCells b o vs).heap.size=w.heap.size
 | [],_,_=>rfl
 | v::r,o,w=>by rw[World.setCells,z3f b r,World.size_setCell]
theorem z45{B b:Nat}(hb:B<=b) :∀ (vs:List Value) (o:Nat) (w:World),Below B w (w.setCells b o vs)
 | [],_,_=>Below.refl _ _
 | v::r,o,w=>((Below.refl B w).setCell (p:=⟨b,o,none⟩) hb v).trans (z45 hb r (o+1) _)
theorem z44(b:Nat){e:TypeId}{fz:Nat×Nat} :∀ (vs:List Value) (o:Nat) (w:World) (arr:Array Value),w.heap[b]? = some (.cells arr e fz)->o+vs.length<=arr.size →
  ∃ arr':Array Value,(w.setCells b o vs).heap[b]? = some (.cells arr' e fz)/\arr'.size=arr.size/\∀ i:Nat,arr'[i]? = if o<=i/\i<o+vs.length then vs[i-o]? else arr[i]?
 | [],o,w,arr,h,_=>⟨arr,h,rfl,fun i=>by rw[if_neg (by simp only[List.length_nil];omega)]⟩
 | v::r,o,w,arr,h,hl=>by
  simp at hl
  have hb:(w.setCell ⟨b,o,none⟩ v).heap[b]? = some (.cells (arr.setIfInBounds o v) e fz):=by
   simp[World.setCell,Array.getElem?_modify,h]
  obtain⟨arr',h1,h2,h3⟩:=z44 b r (o+1) _ _ hb (by simp;omega)
  refine⟨arr',h1,by rw[h2];simp,fun i=>?_⟩
  rw[h3 i]
  simp only[List.length_cons]
  by_cases hi:o+1<=i/\i<o+1+r.length
  .rw[if_pos hi,if_pos (by omega)]
   obtain⟨k,hk⟩ :∃ k,i-o=k+1:=⟨i-o-1,by omega⟩
   rw[hk,List.getElem?_cons_succ]
   congr 1
   omega
  .rw[if_neg hi]
   by_cases h0:i=o
   .subst h0
    have ho:i<arr.size:=by omega
    rw[if_pos (by omega)]
    simp[ho]
   .rw[if_neg (by omega),Array.getElem?_setIfInBounds_ne (fun e=>h0 e.symm)]
theorem z7e(hH:HRel T B φ H w){b:Pos}{x:Place}(hx:φ b=some x){o:Nat}{l:List AVal}{H':AHeap}(h:z05 H b o l=some H'){us:List Value}(hl:LRel φ l us) :
  ∃ w',(storeCells ⟨x.c,x.s+o,none⟩ us).run P w=.ok () w'/\Sim T B φ H w φ H' w':=by
 unfold z05 at h
 split at h
 .rename_i m op hb
  split at h
  .rename_i hs
   split at h
   .rename_i m' hm
    simp at h
    subst h
    obtain⟨arr,e,lo,hi,h1,h2,h3,h4,h5,h6,h7⟩:=hH.obj b _ x hb hx
    obtain⟨e1,e2⟩:=j1y _ _ _ _ hm
    have hlen:=hl.length
    have hcells:∀ j,j<us.length->(w.cell? ⟨x.c,x.s+o+0+j,none⟩).isSome=true:=by
     intro j hj
     rw[z4c h1]
     have:x.s+o+0+j<arr.size:=by omega
     simpa using this
    have hfz:∀ j,j<us.length->w.frozen? ⟨x.c,x.s+o+0+j,none⟩=false:=by
     intro j hj
     simp only[World.frozen?,h1]
     rcases h5 with h5 | h5 | h5
     .simp;omega
     .simp;omega
     .cases h5
    have hB:=h7 rfl
    have hrun:=run_storeCells_cells (P:=P) x.c (x.s+o) us 0 w hcells hfz (z77 hs hl)
    refine⟨_,hrun,?_⟩
    simp only[aZ]
    have hbelow:Below B w (w.setCells x.c (x.s+o) us):=z45 hB us _ w
    refine⟨⟨Emb.le_refl _,fun p hp hn=>⟨hn,?_⟩,lr⟩,⟨fun p q y hq hy=>?_,fun p q y z hpq hp hq=>?_,fun p y hy=>?_,fun p hp=>?_,?_,hH.glob⟩,hbelow⟩
    .have:b≠p:=fun e=>by rw[e]at hx;rw[hx]at hn;cases hn
     simp[AHeap.upd,PT.get_set_other _ _ _ _ this]
    .by_cases hbp:b=p
     .subst hbp
      rw[hx]at hy
      cases hy
      simp[AHeap.upd,PT.get_set_same]at hq
      subst hq
      obtain⟨arr',g1,g2,g3⟩:=z44 x.c us (x.s+o) w arr h1 (by omega)
      refine⟨arr',e,lo,hi,g1,by rw[g2,h2],by rw[j1x hm];exact h3,fun i a ha=>?_,h5,h6,h7⟩
      rw[y19 hm]at ha
      rw[g3 (x.s+i)]
      by_cases hi':o<=i/\i<o+l.length
      .rw[if_pos hi']at ha
       rw[if_pos (by omega)]
       obtain⟨v,e3,e4⟩:=hl.get ha
       exact⟨v,by rw[show x.s+i-(x.s+o)=i-o by omega];exact e3,e4⟩
      .rw[if_neg hi']at ha
       rw[if_neg (by omega)]
       exact h4 i a ha
     .simp only[AHeap.upd,PT.get_set_other _ _ _ _ hbp]at hq
      have hne:y.c≠x.c:=hH.inj p b y x (fun e=>hbp e.symm) (by rw[hq];simp) (by rw[hb];simp) hy hx
      exact(hH.obj p q y hq hy).mono (Emb.le_refl _) (z5n _ _ _ _ _ hne)
    .refine hH.inj p q y z hpq ?_ ?_
     .by_cases hbp:b=p
      .subst hbp;rw[hb];simp
      .simpa[AHeap.upd,PT.get_set_other _ _ _ _ hbp]using hp
     .by_cases hbq:b=q
      .subst hbq;rw[hb];simp
      .simpa[AHeap.upd,PT.get_set_other _ _ _ _ hbq]using hq
    .rw[z3f];exact hH.low p y hy
    .by_cases hbp:b=p
     .subst hbp;exact(hH.low b x hx).1
     .exact hH.dom p (by simpa[AHeap.upd,PT.get_set_other _ _ _ _ hbp]using hp)
    .rw[z3f];exact hH.base
   .cases h
  .cases h
 .cases h
def Emb.put(φ:Emb)(p:Pos)(y:Place) :Emb:=fun q=>match Pos.beq q p with | true=>some y | false=>φ q
theorem Emb.put_same(φ:Emb)(p:Pos)(y:Place) :φ.put p y p=some y:=by simp[Emb.put,Pos.beq_eq.2 rfl]
theorem Emb.put_other(φ:Emb){p q:Pos}(y:Place)(h:q≠p) :φ.put p y q=φ q:=by
 have:Pos.beq q p=false:=by
  cases hb:Pos.beq q p with
  | false=>rfl
  | true=>exact absurd (Pos.beq_eq.1 hb) h
 simp[Emb.put,this]
theorem Emb.le_put{φ:Emb}{p:Pos}(y:Place)(h:φ p=none) :φ.le (φ.put p y):=fun q x hq=>by
 rw[Emb.put_other]
 .exact hq
 .intro e;rw[e,h]at hq;cases hq
theorem HRel.place{H':AHeap}{w':World}(hH:HRel T B φ H w)(p:Pos)(y:Place)(hp:φ p=none)(hp':p.toNat<H'.nx.toNat)(hnx:H.nx.toNat<=H'.nx.toNat)
  (hget:∀ q,q≠p->PT.get q H'.t=PT.get q H.t\/PT.get q H'.t=none)
  (hne:∀ q z,q≠p->PT.get q H'.t≠none->φ q=some z->z.c≠y.c/\w'.heap[z.c]? = w.heap[z.c]?)
  (hy:y.c<w'.heap.size) (hsz:w.heap.size<=w'.heap.size)
  (ho:∀ o,PT.get p H'.t=some o->ORel T (φ.put p y) B w' o y) :HRel T B (φ.put p y) H' w':=by
 have hle:=Emb.le_put (φ:=φ) (p:=p) y hp
 refine⟨fun q o x hq hx=>?_,fun q r x z hqr hq hr hx hz=>?_,fun q x hx=>?_,fun q hq=>?_,Nat.le_trans hH.base hsz,fun g hg=>let ⟨k,e⟩:=hH.glob g hg;⟨k,hle _ _ e⟩⟩
 .by_cases e:q=p
  .subst e;rw[Emb.put_same]at hx;cases hx;exact ho o hq
  .rw[Emb.put_other φ y e]at hx
   have h1:PT.get q H.t=some o:=by
    rcases hget q e with h | h
    .rw[<-h];exact hq
    .rw[h]at hq;cases hq
   exact(hH.obj q o x h1 hx).mono hle (hne q x e (by rw[hq];simp) hx).2
 .by_cases e1:q=p
  .subst e1
   rw[Emb.put_same]at hx;cases hx
   rw[Emb.put_other φ _ (fun e=>hqr e.symm)]at hz
   exact fun e=>(hne r z (fun e=>hqr e.symm) hr hz).1 e.symm
  .rw[Emb.put_other φ y e1]at hx
   by_cases e2:r=p
   .subst e2;rw[Emb.put_same]at hz;cases hz
    exact(hne q x e1 hq hx).1
   .rw[Emb.put_other φ y e2]at hz
    have g1:PT.get q H.t≠none:=by
     rcases hget q e1 with h | h
     .rw[<-h];exact hq
     .exact absurd h hq
    have g2:PT.get r H.t≠none:=by
     rcases hget r e2 with h | h
     .rw[<-h];exact hr
     .exact absurd h hr
    exact hH.inj q r x z hqr g1 g2 hx hz
 .by_cases e:q=p
  .subst e;rw[Emb.put_same]at hx;cases hx;exact⟨hp',hy⟩
  .rw[Emb.put_other φ y e]at hx
   have:=hH.low q x hx
   exact⟨by omega,by omega⟩
 .by_cases e:q=p
  .rw[e];exact hp'
  .have g1:PT.get q H.t≠none:=by
    rcases hget q e with h | h
    .rw[<-h];exact hq
    .exact absurd h hq
   have:=hH.dom q g1
   omega
theorem HRel.fresh(hH:HRel T B φ H w) :φ H.nx=none:=by
 cases h:φ H.nx with
 | none=>rfl
 | some x=>exact absurd (hH.low _ _ h).1 (Nat.lt_irrefl _)
theorem HRel.fresh_get(hH:HRel T B φ H w) :PT.get H.nx H.t=none:=by
 cases h:PT.get H.nx H.t with
 | none=>rfl
 | some x=>exact absurd (hH.dom _ (by rw[h];simp)) (Nat.lt_irrefl _)
theorem HRel.ghost(hH:HRel T B φ H w)(o:AObj) :HRel T B φ (H.new o).2 w:=by
 have hn:=hH.fresh
 refine⟨fun q o' x hq hx=>?_,fun q r x z hqr hq hr hx hz=>?_,fun q x hx=>?_,fun q hq=>?_,hH.base,hH.glob⟩
 .have e:H.nx≠q:=fun e=>by rw[<-e,hn]at hx;cases hx
  simp only[AHeap.new,PT.get_set_other _ _ _ _ e]at hq
  exact hH.obj q o' x hq hx
 .have e1:H.nx≠q:=fun e=>by rw[<-e,hn]at hx;cases hx
  have e2:H.nx≠r:=fun e=>by rw[<-e,hn]at hz;cases hz
  simp only[AHeap.new,PT.get_set_other _ _ _ _ e1]at hq
  simp only[AHeap.new,PT.get_set_other _ _ _ _ e2]at hr
  exact hH.inj q r x z hqr hq hr hx hz
 .have:=hH.low q x hx
  simp only[AHeap.new,Pos.toNat_succ]
  exact⟨by omega,this.2⟩
 .simp only[AHeap.new,Pos.toNat_succ]
  by_cases e:H.nx=q
  .rw[<-e];omega
  .simp only[AHeap.new,PT.get_set_other _ _ _ _ e]at hq
   have:=hH.dom q hq
   omega
theorem Ext.ghost(φ:Emb)(H:AHeap)(o:AObj) :Ext φ H φ (H.new o).2 :=
 ⟨Emb.le_refl _,fun p hp hn=>⟨hn,by
  have:H.nx≠p:=fun e=>by rw[e]at hp;omega
  simp[AHeap.new,PT.get_set_other _ _ _ _ this]⟩,by simp[AHeap.new,Pos.toNat_succ]⟩
theorem AHeap.get_new(H:AHeap)(o:AObj) :PT.get H.nx (H.new o).2.t=some o:=by simp[AHeap.new,PT.get_set_same]
theorem HRel.lay(hH:HRel T B φ H w){p:Pos}{o:AObj}(hp:φ p=none)(hg:PT.get p H.t=some o)(ob:Obj)(k:Nat)
  (ho:ORel T φ B (w.alloc ob) o ⟨w.heap.size,0,k⟩) :HRel T B (φ.put p ⟨w.heap.size,0,k⟩) H (w.alloc ob):=by
 refine hH.place p _ hp (hH.dom p (by rw[hg];simp)) lr (fun _ _=>.inl rfl) (fun q z _ _ hz=>?_) (by simp) (by simp) (fun o' h'=>?_)
 .have:=(hH.low q z hz).2
  exact⟨Nat.ne_of_lt this,Below.heap_alloc _ _ _ this⟩
 .rw[hg]at h';cases h'
  exact ho.mono (Emb.le_put _ hp) rfl
theorem Sim.new(hH:HRel T B φ H w)(o:AObj)(ob:Obj)(k:Nat)(ho:ORel T φ B (w.alloc ob) o ⟨w.heap.size,0,k⟩) :
  Sim T B φ H w (φ.put H.nx ⟨w.heap.size,0,k⟩) (H.new o).2 (w.alloc ob):=by
 have h1:=(hH.ghost o).lay hH.fresh (H.get_new o) ob k ho
 refine⟨⟨Emb.le_put _ hH.fresh,fun p hp hn=>?_,by simp[AHeap.new,Pos.toNat_succ]⟩,h1,(Below.refl B w).alloc hH.base ob⟩
 have:p≠H.nx:=fun e=>by rw[e]at hp;omega
 exact⟨by rw[Emb.put_other _ _ this];exact hn,by simp[AHeap.new,PT.get_set_other _ _ _ _ (fun e=>this e.symm)]⟩
theorem ORel.cells_new{l:List AVal}{arr:Array Value}{e:TypeId}(hB:B<=w.heap.size)(hl:∀ (i:Nat) (a:AVal),l[i]? = some a->∃ v,arr[i]? = some v/\VRel φ a v)(hk:l.length<=arr.size)(op:Bool) :
  ORel T φ B (w.alloc (.cells arr e)) (.cells l op false) ⟨w.heap.size,0,arr.size⟩:=by
 refine⟨arr,e,0,0,by show(w.heap.push _)[w.heap.size]? = _;simp,rfl,by simpa using hk,fun i a h=>?_,.inl rfl,fun _ _=>⟨lr,rfl⟩,fun _=>hB⟩
 obtain⟨v,h1,h2⟩:=hl i a h
 exact⟨v,by simpa using h1,h2⟩
end
structure TOk (T:Tys) (P:Program) :Prop where
 info:∀ t i,T.get t=some i->P.info? t=some i
section
variable{P:Program}{T:Tys}{B:Nat}{φ:Emb}{H:AHeap}{w:World}{nt:Nat}{t:PT AVal}{a:Act}
theorem TOk.und(hT:TOk T P){ty:TypeId}{d:TypeDesc}(h:T.und ty=some d) :P.underlying ty=some d:=by
 unfold Tys.und at h
 unfold Program.underlying
 cases hg:T.get ty with
 | none=>simp[hg]at h
 | some i =>
  rw[hT.info _ _ hg]
  simp only[hg]at h
  cases hd:i.desc with
  | named n u =>
   simp only[hd]at h
   cases hu:T.get u with
   | none=>simp[hu]at h
   | some j =>
    simp only[hu]at h
    obtain⟨d0,s,sz,bt,hp,al,fa,z,cm,ms⟩:=i
    simp only at hd
    subst hd
    simp[hT.info _ _ hu]
    simpa using h
  | _ =>
   simp only[hd]at h
   obtain⟨d0,s,sz,bt,hp,al,fa,z,cm,ms⟩:=i
   simp only at hd
   subst hd
   simpa using h
theorem TOk.run_und(hT:TOk T P){ty:TypeId}{d:TypeDesc}(h:T.und ty=some d)(w:World) :(underlying ty).run P w=.ok d w:=run_underlying (hT.und h) w
theorem TOk.run_info(hT:TOk T P){ty:TypeId}{i:TypeInfo}(h:T.get ty=some i)(w:World) :(typeInfo ty).run P w=.ok i w:=by
 simp[typeInfo,hT.info _ _ h]
theorem TOk.run_size(hT:TOk T P){ty:TypeId}{n:Nat}(h:T.size ty=some n)(w:World) :(sizeOf ty).run P w=.ok n w:=by
 unfold Tys.size at h
 cases hg:T.get ty with
 | none=>simp[hg]at h
 | some i =>
  simp only[hg]at h
  cases h
  simp[sizeOf,hT.run_info hg]
theorem TOk.run_zero(hT:TOk T P){ty:TypeId}{z:AVal}(h:z3c T ty=some z)(w:World) :∃ v,(zeroValue ty).run P w=.ok v w/\z5t v=some z:=by
 unfold z3c at h
 cases hg:T.get ty with
 | none=>simp[hg]at h
 | some i =>
  simp only[hg]at h
  cases hz:i.zero with
  | none=>simp[hz]at h
  | some v =>
   simp only[hz]at h
   exact⟨v,by simp[zeroValue,hT.run_info hg,hz],h⟩
theorem TOk.run_isAgg(hT:TOk T P){ty:TypeId}{b:Bool}(h:T.isAgg ty=some b)(w:World) :(isAgg ty).run P w=.ok b w:=by
 unfold Tys.isAgg at h
 unfold isAgg
 split at h
 .rename_i fs hu;cases h;simp[hT.run_und hu]
 .rename_i n e hu;cases h;simp[hT.run_und hu]
 .rename_i d hns hna hu
  cases h
  simp only[Sem.run_bind,hT.run_und hu,Result.andThen_ok]
  rfl
 .cases h
theorem j8m:∀ (l:List UInt8),∀ x∈j8n l,x<256
 | [],x,h=>by cases h
 | b::l,x,h=>by
  rcases List.mem_cons.1 h with rfl | h
  .exact b.toNat_lt
  .exact j8m l x h
theorem j4b:∀ (l:List UInt8),(j8n l).map UInt8.ofNat=l
 | []=>rfl
 | b::l=>by simp[j8n,j4b l]
theorem j5x:∀ {v:Value} {x:AVal},j8c v=some x->VRel φ x v:=by
 intro v x h
 unfold j8c at h
 split at h<;>first | (cases h;rfl) | skip
 .cases h
  rename_i s
  refine⟨?_,j8m _⟩
  rw[j4b]
 .cases h
theorem j2l:∀ {l:List Value} {m:List AVal},j37 l=some m->LRel φ m l
 | [],m,h=>by simp[j37]at h;subst h;rfl
 | v::l,m,h=>by
  simp only[j37]at h
  split at h
  .rename_i a m' h1 h2
   cases h
   exact⟨v,l,rfl,j5x h1,j2l h2⟩
  .cases h
theorem z4h{v:Value}{x:AVal}(h:z5t v=some x) :VRel φ x v:=by
 unfold z5t at h
 split at h
 .split at h
  .rename_i cs l hl;cases h;exact⟨_,rfl,j2l hl⟩
  .cases h
 .split at h
  .rename_i cs l hl;cases h;exact⟨_,rfl,j2l hl⟩
  .cases h
 .split at h
  .rename_i a ha;cases h;exact⟨_,rfl,j5x ha⟩
  .cases h
 .exact j5x h
theorem z0m(hH:HRel T B φ H w)(ht:TRel φ nt t a.tmps){x:Operand}{ax:AOpnd}(h:opnd T x=some ax) :VRel φ (ax.ev t) (a.eval x):=by
 cases x with
 | tmp i =>
  simp only[opnd]at h
  split at h
  .rename_i hi
   cases h
   have:i<2147483648:=by simpa using hi
   exact ht.2.2 i (by omega)
  .cases h
 | const v =>
  simp only[opnd]at h
  split at h
  .rename_i b hb;cases h;exact z4h hb
  .cases h
 | global g =>
  simp only[opnd]at h
  split at h
  .rename_i hg
   cases h
   obtain⟨k,e⟩:=hH.glob g (by simpa using hg)
   exact⟨_,e,by simp[Act.eval]⟩
  .cases h
 | func f =>
  cases h
  exact⟨#[],#[],rfl,rfl,rfl⟩
theorem z4x(hH:HRel T B φ H w)(ht:TRel φ nt t a.tmps) :∀ {l:List Operand} {al:List AOpnd},z7i T l=some al->LRel φ (evs t al) (l.map a.eval)
 | [],al,h=>by simp[z7i]at h;subst h;rfl
 | x::l,al,h=>by
  simp only[z7i]at h
  split at h
  .rename_i b m h1 h2
   cases h
   exact⟨_,_,rfl,z0m hH ht h1,z4x hH ht h2⟩
  .cases h
theorem VRel.bool_inv{b:Bool}{v:Value}(h:VRel φ (.bool b) v) :v=.bool b:=h
theorem VRel.int_inv{k:IntKind}{n:Int}{v:Value}(h:VRel φ (.int k n) v) :v=.int k n:=h
theorem z5v{x:AVal}{n:Nat}{v:Value}(h:z3j x=some n)(hv:VRel φ x v) :∃ k,v=.int k n:=by
 unfold z3j at h
 split at h
 .cases h;exact⟨_,hv⟩
 .cases h
theorem j3k(hH:HRel T B φ H w)(ht:TRel φ nt t a.tmps){o:Oper}{x:Operand}(ho:o.op=.move x\/o.op=.assign x){ax:AOpnd}(hx:opnd T x=some ax) :
  ∃ u,(execOp a.eval o).run P w=.ok (.value u) w/\VRel φ (ax.ev t) u:=by
 refine⟨a.eval x,?_,z0m hH ht hx⟩
 rcases ho with ho | ho<;>simp[execOp,ho]
theorem y36(hH:HRel T B φ H w)(ht:TRel φ nt t a.tmps){o:Oper}{c x y:Operand}(ho:o.op=.pick c x y){ac ax ay:AOpnd}(hc:opnd T c=some ac)(hx:opnd T x=some ax)(hy:opnd T y=some ay)
  {v:AVal} (h:quiet t H (.pick ac ax ay)=some v) :∃ u,(execOp a.eval o).run P w=.ok (.value u) w/\VRel φ v u:=by
 simp only[quiet]at h
 have hcv:=z0m hH ht hc
 split at h
 .rename_i hb
  cases h
  rw[hb]at hcv
  exact⟨_,by simp[execOp,ho,asBool,VRel.bool_inv hcv],z0m hH ht hx⟩
 .rename_i hb
  cases h
  rw[hb]at hcv
  exact⟨_,by simp[execOp,ho,asBool,VRel.bool_inv hcv],z0m hH ht hy⟩
 .cases h
theorem j89(hT:TOk T P)(hH:HRel T B φ H w)(ht:TRel φ nt t a.tmps){o:Oper}{ty:TypeId}{x:Operand}(ho:o.op=.load ty x){ax:AOpnd}(hx:opnd T x=some ax)(hg:T.isAgg ty=some false)
  {v:AVal} (h:quiet t H (.load1 ax)=some v) :∃ u,(execOp a.eval o).run P w=.ok (.value u) w/\VRel φ v u:=by
 simp only[quiet]at h
 have hxv:=z0m hH ht hx
 split at h
 .rename_i b off hb
  rw[hb]at hxv
  obtain⟨y,hy,e⟩:=hxv
  obtain⟨u,h1,h2⟩:=j5g hH hy h
  exact⟨u,by simp[execOp,ho,Instr.loadAt,Instr.sureAddr,e,loadVar,hT.run_isAgg hg,h1],h2⟩
 .cases h
theorem j88(hT:TOk T P)(hH:HRel T B φ H w)(ht:TRel φ nt t a.tmps){o:Oper}{ty:TypeId}{x:Operand}(ho:o.op=.load ty x){ax:AOpnd}(hx:opnd T x=some ax)(hg:T.isAgg ty=some true)
  {n:Nat} (hn:T.size ty=some n) {v:AVal} (h:quiet t H (.loadN n ax)=some v) :∃ u,(execOp a.eval o).run P w=.ok (.value u) w/\VRel φ v u:=by
 simp only[quiet]at h
 have hxv:=z0m hH ht hx
 split at h
 .rename_i b off hb
  rw[hb]at hxv
  obtain⟨y,hy,e⟩:=hxv
  split at h
  .rename_i l hl
   cases h
   obtain⟨us,h1,h2,h3,h4⟩:=z3z (P:=P) hH hy hl
   exact⟨.agg us.toArray,by simp[execOp,ho,Instr.loadAt,Instr.sureAddr,e,loadVar,hT.run_isAgg hg,hT.run_size hn,h4],us.toArray,rfl,by simpa using h2⟩
  .cases h
 .cases h
theorem j2u(hH:HRel T B φ H w)(ht:TRel φ nt t a.tmps){o:Oper}{x:Operand}(ho:o.op=.nilCheck x){ax:AOpnd}(hx:opnd T x=some ax)
  {v:AVal} (h:quiet t H (.nilCheck ax)=some v) :∃ u,(execOp a.eval o).run P w=.ok (.value u) w/\VRel φ v u:=by
 simp only[quiet]at h
 have hxv:=z0m hH ht hx
 split at h
 .rename_i b off hb
  cases h
  rw[hb]at hxv
  obtain⟨y,hy,e⟩:=hxv
  exact⟨_,by simp[execOp,ho,e],y,hy,rfl⟩
 .rename_i f p c hb
  cases h
  rw[hb]at hxv
  obtain⟨p',c',e,h1,h2⟩:=hxv
  exact⟨_,by simp[execOp,ho,e],p',c',rfl,h1,h2⟩
 .rename_i l hb
  cases h
  rw[hb]at hxv
  obtain⟨y,hy,e⟩:=hxv
  exact⟨_,by simp[execOp,ho,e],y,hy,rfl⟩
 .cases h
end
theorem q8e(a b:Int) :addI a b=a+b:=by
 cases a<;>cases b<;>first | rfl | simp[addI]
theorem y5x(a b:Int) :subI a b=a-b:=by
 cases a with
 | ofNat a =>
  cases b with
  | ofNat b =>
   simp only[subI]
   split
   .rename_i h
    have:=Nat.le_of_ble_eq_true h
    have e:Nat.sub a b=a-b:=rfl
    rw[e]
    simp only[Int.ofNat_eq_natCast]
    omega
   .rename_i h
    have:a<b:=by
     rcases Nat.lt_or_ge a b with h' | h'
     .exact h'
     .rw[Nat.ble_eq_true_of_le h']at h;cases h
    have e:Nat.sub b a=b-a:=rfl
    rw[e]
    simp only[Int.ofNat_eq_natCast,Int.negSucc_eq,Nat.pred_eq_sub_one]
    omega
  | negSucc b=>rfl
 | negSucc a=>cases b<;>rfl
theorem j3t(a b:Int) :ltI a b=decide (a<b):=by
 cases a with
 | ofNat a=>cases b with
  | ofNat b=>simp only[ltI];rw[Bool.eq_iff_iff];simp
  | negSucc b=>simp only[ltI];rw[Bool.eq_iff_iff];simp;omega
 | negSucc a=>cases b with
  | ofNat b=>simp only[ltI];rw[Bool.eq_iff_iff];simp;omega
  | negSucc b=>simp only[ltI];rw[Bool.eq_iff_iff];simp;omega
theorem j32(a b:Int) :eqI a b=(a==b):=by
 cases a with
 | ofNat a=>cases b with
  | ofNat b=>simp only[eqI];rw[Bool.eq_iff_iff];simp;omega
  | negSucc b=>simp only[eqI];rw[Bool.eq_iff_iff];simp
 | negSucc a=>cases b with
  | ofNat b=>simp only[eqI];rw[Bool.eq_iff_iff];simp
  | negSucc b=>simp only[eqI];rw[Bool.eq_iff_iff];simp
theorem z3v(k:IntKind)(n:Int) :z1n k n=k.wrap n:=by
 unfold z1n
 split
 .rename_i m
  split
  .split
   .rename_i h
    have:=Nat.le_of_ble_eq_true h
    have e:(Int.ofNat m)%(2^64:Int)=Int.ofNat m:=by simp only[Int.ofNat_eq_natCast];omega
    show Int.ofNat m=if(true && decide ((Int.ofNat m)%(2^64:Int) ≥ (2^63:Int)))=true then _ else(Int.ofNat m)%(2^64:Int)
    have hd:decide ((Int.ofNat m)%(2^64:Int) ≥ (2^63:Int))=false:=by
     rw[decide_eq_false_iff_not,e]
     simp only[Int.ofNat_eq_natCast];omega
    rw[hd,e]
    rfl
   .rfl
  .show Int.ofNat (m%256)=(Int.ofNat m)%(2^8:Int)
   simp only[Int.ofNat_eq_natCast];omega
  .show Int.ofNat (m%4294967296)=(Int.ofNat m)%(2^32:Int)
   simp only[Int.ofNat_eq_natCast];omega
  .show Int.ofNat (m%18446744073709551616)=(Int.ofNat m)%(2^64:Int)
   simp only[Int.ofNat_eq_natCast];omega
  .rfl
 .rfl
theorem q20(k:IntKind) :q8a k=2^k.bits:=by cases k<;>rfl
theorem j54(k:IntKind)(f:Nat->Nat->Nat)(g:BitVec k.bits->BitVec k.bits->BitVec k.bits)(hfg:∀ a b:Nat,(g (BitVec.ofNat k.bits a) (BitVec.ofNat k.bits b)).toNat=f a b%2^k.bits)(a b:Int) :
  y97 k f g a b=k.wrap (g (BitVec.ofInt k.bits a) (BitVec.ofInt k.bits b)).toNat:=by
 unfold y97
 split
 .rename_i x y
  rw[z3v,q20]
  have e1:BitVec.ofInt k.bits (Int.ofNat x)=BitVec.ofNat k.bits x:=by simp
  have e2:BitVec.ofInt k.bits (Int.ofNat y)=BitVec.ofNat k.bits y:=by simp
  rw[e1,e2,hfg]
  rfl
 .rw[z3v];rfl
theorem y7z(a b:Int) :mulI a b=a*b:=by
 cases a<;>cases b<;>first | rfl | simp[mulI]
theorem q6i(a b:Int) :quoI a b=a.tdiv b:=by
 cases a<;>cases b<;>rfl
theorem q6h(a b:Int) :remI a b=a.tmod b:=by
 cases a<;>cases b<;>rfl
theorem z97{b:Int}(h:y2l b=false) :b≠0:=by
 intro e;subst e;simp[y2l]at h
theorem z6r{j k:IntKind} :kbeq j k=true↔j=k:=by
 cases j<;>cases k<;>simp[kbeq]
theorem y87{R:Type}(n:Int)(k:Int->R) :y88 n k=k n:=by
 unfold y88
 split<;>rfl
theorem z3l{R:Type}(v:AVal)(k:AVal->R) :z5i v k=k v:=by
 unfold z5i
 split<;>simp[y87]
section
variable{P:Program}{φ:Emb}{w:World}
theorem j7w{op:BinOp}{k:IntKind}{x y:Int}{ty:TypeId}{v:AVal}(h:z6s op k x y=some v) :
  ∃ u,(binOp op ty (.int k x) (.int k y)).run P w=.ok u w/\VRel φ v u:=by
 cases op<;>simp only[z6s]at h
 case add=>cases h;exact⟨_,by simp[binOp,Op.intArith,z3v,q8e],rfl⟩
 case sub=>cases h;exact⟨_,by simp[binOp,Op.intArith,z3v,y5x],rfl⟩
 case mul=>cases h;exact⟨_,by simp[binOp,Op.intArith,z3v,y7z],rfl⟩
 case quo =>
  split at h
  .cases h
  .rename_i hy;cases h;exact⟨_,by simp[binOp,Op.intDiv,z3v,q6i,z97 hy],rfl⟩
 case rem =>
  split at h
  .cases h
  .rename_i hy;cases h;exact⟨_,by simp[binOp,Op.intDiv,q6h,z97 hy],rfl⟩
 case and =>
  cases h
  refine⟨.int k (k.wrap (BitVec.ofInt k.bits x&&&BitVec.ofInt k.bits y).toNat),by simp[binOp,Op.intBits],?_⟩
  rw[j54 _ _ _ (fun a b=>by simp[<-Nat.and_mod_two_pow])]
  rfl
 case or =>
  cases h
  refine⟨.int k (k.wrap (BitVec.ofInt k.bits x ||| BitVec.ofInt k.bits y).toNat),by simp[binOp,Op.intBits],?_⟩
  rw[j54 _ _ _ (fun a b=>by simp[<-Nat.or_mod_two_pow])]
  rfl
 case xor =>
  cases h
  refine⟨.int k (k.wrap (BitVec.ofInt k.bits x^^^BitVec.ofInt k.bits y).toNat),by simp[binOp,Op.intBits],?_⟩
  rw[j54 _ _ _ (fun a b=>by simp[<-Nat.xor_mod_two_pow])]
  rfl
 case andNot=>cases h;exact⟨_,by simp[binOp,Op.intBits,z3v],rfl⟩
 case shl=>cases h
 case shr=>cases h
 case eql=>cases h;exact⟨_,by simp[binOp,Op.intCmp,j32],rfl⟩
 case neq=>cases h;exact⟨_,by simp[binOp,Op.intCmp];rfl,by simp[VRel,j32,bne]⟩
 case lss=>cases h;exact⟨_,by simp[binOp,Op.intCmp,j3t],rfl⟩
 case leq=>cases h;exact⟨_,by simp[binOp,Op.intCmp];rfl,by simp[VRel,j3t];rw[Bool.eq_iff_iff];simp⟩
 case gtr=>cases h;exact⟨_,by simp[binOp,Op.intCmp,j3t],rfl⟩
 case geq=>cases h;exact⟨_,by simp[binOp,Op.intCmp];rfl,by simp[VRel,j3t];rw[Bool.eq_iff_iff];simp⟩
theorem y08{op:BinOp}(hop:op=.shl\/op=.shr){k j:IntKind}{x y:Int}{ty:TypeId}{v:AVal}(h:j4n op k x y=some v) :
  ∃ u,(binOp op ty (.int k x) (.int j y)).run P w=.ok u w/\VRel φ v u:=by
 unfold j4n at h
 split at h
 .cases h
 .rename_i m
  have hm:¬ ((m:Int)<0):=by omega
  rcases hop with rfl | rfl
  .simp only at h
   cases h
   refine⟨.int k (k.wrap (x*2^(min m k.bits))),?_,?_⟩
   .simp[binOp,Op.shift,hm]
   .simp only[VRel,z3v,y7z]
    congr 3
  .simp only at h
   refine⟨.int k (x.fdiv (2^(min m k.bits))),by simp[binOp,Op.shift,hm],?_⟩
   split at h
   .rename_i z
    cases h
    show Value.int k _=.int k _
    congr 1
    have e:(2:Int)^(min m k.bits)=((2^(min m k.bits) :Nat) :Int):=by simp
    rw[e]
    show Int.fdiv ((z:Nat) :Int) ((2^(min m k.bits) :Nat) :Int)=((z/2^(min m k.bits) :Nat) :Int)
    rw[Int.fdiv_eq_ediv_of_nonneg _ (Int.natCast_nonneg _)]
    rfl
   .cases h;rfl
end
structure TOk2 (T:Tys) (P:Program) :Prop extends TOk T P where
 cmp:∀ t,T.cmps.contains t=true->P.stoodInHeld t=false
 zero:∀ t i v,T.get t=some i->i.zero=some v->v.cells.size=i.size
section
variable{P:Program}{T:Tys}{B:Nat}{φ:Emb}{H:AHeap}{w:World}{nt:Nat}{t:PT AVal}{a:Act}
def strV(s:List Nat) :ByteArray:=⟨(s.map UInt8.ofNat).toArray⟩
theorem ofNat_inj{a b:Nat}(ha:a<256)(hb:b<256)(h:UInt8.ofNat a=UInt8.ofNat b) :a=b:=by
 have:=congrArg UInt8.toNat h
 simp at this
 omega
theorem z6i:∀ {s r:List Nat},(∀ x∈s,x<256)->(∀ x∈r,x<256)->z14 s r=(s.map UInt8.ofNat==r.map UInt8.ofNat)
 | [],[],_,_=>rfl
 | [],b::r,_,_=>rfl
 | a::s,[],_,_=>rfl
 | a::s,b::r,hs,hr=>by
  have ih:=z6i (s:=s) (r:=r) (fun x h=>hs x (List.mem_cons_of_mem _ h)) (fun x h=>hr x (List.mem_cons_of_mem _ h))
  simp only[z14,List.map_cons]
  have key:Nat.beq a b=(UInt8.ofNat a==UInt8.ofNat b):=by
   rw[Bool.eq_iff_iff]
   constructor
   .intro h;rw[Nat.eq_of_beq_eq_true h];simp
   .intro h
    have:=ofNat_inj (hs a (by simp)) (hr b (by simp)) (by simpa using h)
    rw[this];exact Nat.beq_refl b
  rw[key,ih]
  show _=(UInt8.ofNat a==UInt8.ofNat b && (s.map UInt8.ofNat==r.map UInt8.ofNat))
  cases (UInt8.ofNat a==UInt8.ofNat b)<;>rfl
theorem j6w:∀ {s r:List Nat},(∀ x∈s,x<256)->(∀ x∈r,x<256)->z5a s r=Op.bytesLess (s.map UInt8.ofNat) (r.map UInt8.ofNat)
 | [],[],_,_=>rfl
 | a::s,[],_,_=>rfl
 | [],b::r,_,_=>rfl
 | a::s,b::r,hs,hr=>by
  have ih:=j6w (s:=s) (r:=r) (fun x h=>hs x (List.mem_cons_of_mem _ h)) (fun x h=>hr x (List.mem_cons_of_mem _ h))
  have ha:=hs a (by simp)
  have hb:=hr b (by simp)
  simp only[z5a,List.map_cons,Op.bytesLess]
  have k1:Nat.blt a b=decide (UInt8.ofNat a<UInt8.ofNat b):=by
   rw[Bool.eq_iff_iff]
   simp[UInt8.lt_iff_toNat_lt]
   rw[Nat.mod_eq_of_lt ha,Nat.mod_eq_of_lt hb]
  have k2:Nat.beq a b=(UInt8.ofNat a==UInt8.ofNat b):=by
   rw[Bool.eq_iff_iff]
   constructor
   .intro h;rw[Nat.eq_of_beq_eq_true h];simp
   .intro h
    have:=ofNat_inj ha hb (by simpa using h)
    rw[this];exact Nat.beq_refl b
  rw[k1,k2,ih]
  cases decide (UInt8.ofNat a<UInt8.ofNat b)<;>cases (UInt8.ofNat a==UInt8.ofNat b)<;>rfl
theorem z1u(s:List Nat) :(strV s).toList=s.map UInt8.ofNat:=by
 rw[ByteArray.toList_eq]
 rfl
theorem z4i(s:List Nat) :(strV s).size=s.length:=by
 show((s.map UInt8.ofNat).toArray).size=_
 simp
theorem VRel.str_inv{s:List Nat}{v:Value}(h:VRel φ (.str s) v) :v=.string (strV s)/\∀ x∈s,x<256:=h
theorem y50{op:BinOp}{s r:List Nat}{ty:TypeId}{v:AVal}(hs:∀ x∈s,x<256)(hr:∀ x∈r,x<256)(h:j3c op s r=some v) :
  ∃ u,(binOp op ty (.string (strV s)) (.string (strV r))).run P w=.ok u w/\VRel φ v u:=by
 have e1:=z6i hs hr
 have e2:=j6w hs hr
 cases op<;>simp only[j3c]at h
 case add =>
  split at h
  .rename_i hle
   cases h
   have hle':s.length+r.length<=9223372036854775807:=Nat.le_of_ble_eq_true hle
   refine⟨.string (strV (s++r)),?_,rfl,?_⟩
   .simp only[binOp,Op.stringOp]
    rw[if_neg (by rw[z4i,z4i];simp[IntKind.max,IntKind.signed,IntKind.bits];omega)]
    simp only[Sem.run_pure]
    congr 2
    apply ByteArray.ext
    show _=((s++r).map UInt8.ofNat).toArray
    simp[strV]
   .intro x hx
    rcases List.mem_append.1 hx with h | h
    .exact hs x h
    .exact hr x h
  .cases h
 all_goals first | (cases h;done) | skip
 case eql=>cases h;exact⟨_,by simp[binOp,Op.stringOp,z1u,<-e1],rfl⟩
 case neq=>cases h;exact⟨_,by simp[binOp,Op.stringOp,z1u,<-e1],rfl⟩
 case lss=>cases h;exact⟨_,by simp[binOp,Op.stringOp,z1u,<-e2],rfl⟩
 case leq=>cases h;exact⟨_,by simp only[binOp,Op.stringOp,z1u,<-e2,<-e1];rfl,rfl⟩
 case gtr=>cases h;exact⟨_,by simp only[binOp,Op.stringOp,z1u,<-e2,<-e1];rfl,rfl⟩
 case geq=>cases h;exact⟨_,by simp[binOp,Op.stringOp,z1u,<-e2],rfl⟩
theorem y98{op:BinOp}{x y v:AVal}{ux uy:Value}{ty:TypeId}(hx:VRel φ x ux)(hy:VRel φ y uy)(h:z0l op x y=some v) :
  ∃ u,(binOp op ty ux uy).run P w=.ok u w/\VRel φ v u:=by
 unfold z0l at h
 split at h
 .rw[VRel.int_inv hx,VRel.int_inv hy];exact y08 (.inl rfl) h
 .rw[VRel.int_inv hx,VRel.int_inv hy];exact y08 (.inr rfl) h
 .split at h
  .rename_i hk
   rw[VRel.int_inv hx,VRel.int_inv hy,<-z6r.1 hk];exact j7w h
  .cases h
 .obtain⟨rfl,h1⟩:=VRel.str_inv hx
  obtain⟨rfl,h2⟩:=VRel.str_inv hy
  exact y50 h1 h2 h
 .cases h
theorem z03{op:BinOp}{ty:TypeId}{x y:Operand}{u v:Value}(h1:u≠.nilIface)(h2:∀ l,u≠.agg l) :(eqGuard op ty x y u v).run P w=.ok () w:=by
 cases op<;>first
  | rfl
  | (cases u<;>first | (exact absurd rfl h1) | (exact absurd rfl (h2 _)) | rfl)
theorem j7e(hH:HRel T B φ H w)(ht:TRel φ nt t a.tmps){o:Oper}{op:BinOp}{ty ty2:TypeId}{x y:Operand}(ho:o.op=.binOp op ty x y ty2){ax ay:AOpnd}(hx:opnd T x=some ax)(hy:opnd T y=some ay)
  {v:AVal} (h:quiet t H (.bin op ax ay)=some v) :∃ u,(execOp a.eval o).run P w=.ok (.value u) w/\VRel φ v u:=by
 simp only[quiet]at h
 have hxv:=z0m hH ht hx
 have hyv:=z0m hH ht hy
 obtain⟨u,h1,h2⟩:=y98 (P:=P) (w:=w) (ty:=ty) hxv hyv h
 have hg:(eqGuard op ty x y (a.eval x) (a.eval y)).run P w=.ok () w:=by
  unfold z0l at h
  split at h
  .rename_i e1 e2;rw[e1]at hxv;rw[VRel.int_inv hxv];exact z03 (by simp) (by simp)
  .rename_i e1 e2;rw[e1]at hxv;rw[VRel.int_inv hxv];exact z03 (by simp) (by simp)
  .rename_i e1 e2;rw[e1]at hxv;rw[VRel.int_inv hxv];exact z03 (by simp) (by simp)
  .rename_i e1 e2;rw[e1]at hxv;rw[(VRel.str_inv hxv).1];exact z03 (by simp) (by simp)
  .cases h
 exact⟨u,by simp[execOp,ho,hg,h1],h2⟩
end
end Go.Am
