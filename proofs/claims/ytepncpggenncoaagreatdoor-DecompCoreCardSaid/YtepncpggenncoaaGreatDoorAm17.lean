import Derived.Test.YtepncpggenncoaaGreatDoorAm16
import Derived.ChangeSlices
import Derived.Test.YtepncpggenncoaaGreatDoorAm14
set_option linter.unusedSimpArgs false
set_option linter.unusedVariables false
set_option maxHeartbeats 8000000
section
namespace Go.Am
open Go Go.RowKit Go.ChangeShapes Go.WideShapes
def z6a:Nat->Pos
 | 0=>.h
 | n+1=>(z6a n).succ
theorem z1s:∀ n,(z6a n).toNat=n+1
 | 0=>rfl
 | n+1=>by simp only[z6a,Pos.toNat_succ,z1s n]
theorem q08{g:Nat}(hg:g<2^31) :z6a g=Pos.ofNat g:=Pos.toNat_inj (by rw[z1s,Pos.toNat_ofNat hg])
def absS(size:Nat)(a:Addr)(len cap:Nat) :AVal :=
 if cap=0 then(if len=0/\0<size then .sl (z6a 0) 0 0 0 0 else .any)
 else if a.spot=none/\a.block<size/\len<=cap then .sl (z6a a.block) a.off len cap 0 else .any
def absV(size:Nat) :Value->AVal
 | .bool b=>.bool b
 | .int k n=>.int k n
 | .string s=>.str (s.data.toList.map UInt8.toNat)
 | .slice none 0 0=>.snil
 | .slice (some a) len cap=>absS size a len cap
 | _=>.any
def absA(size:Nat) :Value->AVal
 | .agg xs=>.agg (xs.toList.map (absV size))
 | v=>absV size v
def absO(size:Nat) :Option Obj->Option AObj
 | some (.cells arr _ _)=>some (.cells (arr.toList.map (absV size)) false true)
 | _=>none
def absT(W:World) :Nat->PT AObj
 | 0=>.l
 | n+1=>PT.set (z6a n) (absO W.heap.size W.heap[n]?) (absT W n)
def absH(W:World) :AHeap:=⟨absT W W.heap.size,z6a W.heap.size⟩
theorem j6a(W:World) :(absH W).nx.toNat=W.heap.size+1:=z1s _
theorem j0y(W:World) :∀ (n:Nat) (p:Pos),PT.get p (absT W n)=if p.toNat<=n then absO W.heap.size W.heap[p.toNat-1]? else none
 | 0,p=>by
  have:=Pos.toNat_pos p
  rw[if_neg (by omega)]
  exact z2o p
 | n+1,p=>by
  have hp:=Pos.toNat_pos p
  by_cases h:z6a n=p
  .subst h
   simp only[absT]
   rw[PT.get_set_same,z1s,if_pos lr]
   simp
  .simp only[absT]
   rw[PT.get_set_other _ _ _ _ h,j0y W n p]
   have hne:p.toNat≠n+1:=fun e=>h (Pos.toNat_inj (by rw[z1s,e]))
   by_cases h2:p.toNat<=n
   .rw[if_pos h2,if_pos (by omega)]
   .rw[if_neg h2,if_neg (by omega)]
theorem j6b{W:World}{b:Nat}{arr:Array Value}{e:TypeId}{fz:Nat×Nat}(h:W.heap[b]? = some (.cells arr e fz)) :PT.get (z6a b) (absH W).t=some (.cells (arr.toList.map (absV W.heap.size)) false true):=by
 show PT.get (z6a b) (absT W W.heap.size)=_
 have:=(Array.getElem?_eq_some_iff.1 h).1
 rw[j0y,z1s,if_pos (by omega)]
 simp only[Nat.add_sub_cancel,h,absO]
def absE(W:World) :Emb:=z50 W W.heap.size
theorem z81{W:World}{p:Pos}{x:Place}(h:absE W p=some x) :p.toNat<=W.heap.size/\x.c=p.toNat-1/\x.s=0/\x.k=(match W.heap[p.toNat-1]? with | some (.cells arr _ _)=>arr.size | _=>0):=by
 unfold absE z50 at h
 split at h
 .rename_i hb
  cases h
  exact⟨Nat.le_of_ble_eq_true hb,rfl,rfl,rfl⟩
 .cases h
theorem y0g{W:World}{b:Nat}(h:b<W.heap.size) :∃ k,absE W (z6a b)=some ⟨b,0,k⟩:=by
 unfold absE z50
 rw[z1s,Nat.ble_eq_true_of_le (show b+1<=W.heap.size by omega)]
 exact⟨_,rfl⟩
theorem q0j{φ:Emb}(s:ByteArray) :VRel φ (.str (s.data.toList.map UInt8.toNat)) (.string s):=by
 have h:=y5p (φ:=φ) s.data.toList
 have e:(⟨s.data.toList.toArray⟩ :ByteArray)=s:=by cases s;simp
 rw[e]at h
 exact h
theorem q22(W:World)(a:Addr)(len cap:Nat) :VRel (absE W) (absS W.heap.size a len cap) (.slice (some a) len cap):=by
 unfold absS
 split
 .rename_i h0
  split
  .rename_i h
   obtain⟨k,hk⟩:=y0g h.2
   exact⟨_,a,0,hk,by rw[h0,h.1],lr,lr,.inl ⟨rfl,rfl,.inr rfl⟩⟩
  .trivial
 .split
  .rename_i h
   obtain⟨k,hk⟩:=y0g h.2.1
   refine⟨_,a,cap,hk,rfl,h.2.2,lr,.inl ⟨rfl,rfl,.inl ?_⟩⟩
   obtain⟨b,off,spot⟩:=a
   have:spot=none:=h.1
   subst this
   simp
  .trivial
theorem j59(W:World)(v:Value) :VRel (absE W) (absV W.heap.size v) v:=by
 unfold absV
 split
 .rfl
 .rfl
 .exact q0j _
 .rfl
 .exact q22 W _ _ _
 .trivial
theorem y3i(W:World) :∀ (l:List Value),LRel (absE W) (l.map (absV W.heap.size)) l
 | []=>rfl
 | v::l=>⟨v,l,rfl,j59 W v,y3i W l⟩
theorem q23(W:World)(v:Value) :VRel (absE W) (absA W.heap.size v) v:=by
 unfold absA
 split
 .rename_i xs;exact⟨xs,rfl,y3i W xs.toList⟩
 .exact j59 W v
theorem j8q(W:World) :∀ (l:List Value),LRel (absE W) (l.map (absA W.heap.size)) l
 | []=>rfl
 | v::l=>⟨v,l,rfl,q23 W v,j8q W l⟩
theorem HRel.world{T:Tys}{W:World}(hng:T.ng<=W.heap.size)(h31:T.ng<2^31) :HRel T W.heap.size (absE W) (absH W) W:=by
 have hto:∀ g,g<2^31->(Pos.ofNat g).toNat=g+1:=fun g hg=>Pos.toNat_ofNat hg
 refine⟨fun p o x hp hx=>?_,fun p q x y hpq _ _ hx hy=>?_,fun p x hx=>?_,fun p hp=>?_,lr,fun g hg=>?_⟩
 .obtain⟨h1,h2,h3,h4⟩:=z81 hx
  have hp:PT.get p (absT W W.heap.size)=some o:=hp
  rw[j0y,if_pos h1]at hp
  cases hb:W.heap[p.toNat-1]? with
  | none=>rw[hb]at hp;simp[absO]at hp
  | some ob =>
   rw[hb]at hp h4
   cases ob with
   | cells arr e fz =>
    simp only[absO,Option.some.injEq]at hp
    subst hp
    obtain⟨lo,hi⟩:=fz
    refine⟨arr,e,lo,hi,by rw[h2];exact hb,h4.symm,by rw[h3,h4];simp,fun i a hi=>?_,.inr (.inr rfl),fun _ h=>(by cases h),fun h=>(by cases h)⟩
    rw[List.getElem?_map]at hi
    cases hv:arr.toList[i]? with
    | none=>rw[hv]at hi;cases hi
    | some v =>
     rw[hv]at hi
     cases hi
     exact⟨v,by rw[h3];simpa using hv,j59 W v⟩
   | _=>simp[absO]at hp
 .obtain⟨a1,b1,_⟩:=z81 hx
  obtain⟨a2,b2,_⟩:=z81 hy
  intro e
  have hp1:=Pos.toNat_pos p
  have hq1:=Pos.toNat_pos q
  exact hpq (Pos.toNat_inj (by omega))
 .obtain⟨a1,b1,_⟩:=z81 hx
  have hp1:=Pos.toNat_pos p
  refine⟨?_,by omega⟩
  show _<(z6a W.heap.size).toNat
  rw[z1s];omega
 .show _<(z6a W.heap.size).toNat
  rw[z1s]
  have hp:PT.get p (absT W W.heap.size)≠none:=hp
  rw[j0y]at hp
  by_cases h:p.toNat<=W.heap.size
  .omega
  .rw[if_neg h]at hp;exact absurd rfl hp
 .have:Pos.ofNat g=z6a g:=Pos.toNat_inj (by rw[hto g (by omega),z1s])
  rw[this]
  exact y0g (by omega)
theorem y3j{W:World}{b off:Nat}{arr:Array Value}{e:TypeId}{fz:Nat×Nat}(hc:W.heap[b]? = some (.cells arr e fz)){l:List AVal}(h:∀ i (hi:i<l.length),∃ v,arr[off+i]? = some v/\absV W.heap.size v=l[i])(hoff:off+l.length<=arr.size) :z0t (absH W) (z6a b) off l.length=some l:=by
 unfold z0t
 rw[j6b hc]
 simp only
 rw[z27 (by simpa using hoff)]
 congr 1
 refine List.ext_getElem? fun i=>?_
 by_cases hi:i<l.length
 .obtain⟨v,h1,h2⟩:=h i hi
  rw[List.getElem?_take,if_pos hi,List.getElem?_drop,List.getElem?_map,List.getElem?_eq_getElem hi]
  have h1':arr.toList[off+i]? = some v:=by simpa using h1
  rw[h1',Option.map_some,h2]
 .rw[List.getElem?_take,if_neg hi,List.getElem?_eq_none (by omega)]
theorem y43{W:World}{a:Addr}{len cap:Nat}{l:List AVal}(hl:l.length=len)(hlc:len<=cap)(h0:∃ arr e fz,W.heap[0]? = some (.cells arr e fz))(hcell:∀ i,i<cap->∃ v,W.cell? (a.add i)=some v)(hval:∀ i (hi:i<l.length),∃ v,W.cell? (a.add i)=some v/\absV W.heap.size v=l[i]) :
  ∃ b o cap',absS W.heap.size a len cap=.sl b o l.length cap' 0/\z0t (absH W) b o l.length=some l/\b.toNat<(absH W).nx.toNat/\l.length<=cap':=by
 by_cases hc:cap=0
 .subst hc
  obtain⟨arr,e,fz,h0⟩:=h0
  have hl0:l=[]:=List.length_eq_zero_iff.1 (by omega)
  subst hl0
  have hlt:=(Array.getElem?_eq_some_iff.1 h0).1
  refine⟨z6a 0,0,0,?_,?_,?_,lr⟩
  .unfold absS
   rw[if_pos rfl,if_pos ⟨by simpa using hl.symm,by omega⟩]
   rfl
  .exact y3j h0 (fun i hi=>by simp at hi) (by simp)
  .rw[j6a,z1s];omega
 .obtain⟨v0,hv0⟩:=hcell 0 (by omega)
  obtain⟨b,off,spot⟩:=a
  have hspot:spot=none:=by simpa[Addr.add]using World.cell?_spot hv0
  subst hspot
  obtain⟨arr,e,fz,hcb⟩ :∃ arr e fz,W.heap[b]? = some (.cells arr e fz):=by
   rw[add_plain]at hv0
   unfold World.cell? at hv0
   split at hv0
   .rename_i c e' f' hb;exact⟨c,e',f',hb⟩
   .cases hv0
  have hlt:=(Array.getElem?_eq_some_iff.1 hcb).1
  have ck:∀ j v,W.cell? (Addr.add ⟨b,off,none⟩ j)=some v->arr[off+j]? = some v:=by
   intro j v hj
   rw[add_plain]at hj
   unfold World.cell? at hj
   simpa[hcb]using hj
  refine⟨z6a b,off,cap,?_,?_,by rw[j6a,z1s];omega,by omega⟩
  .unfold absS
   rw[if_neg hc,if_pos ⟨rfl,hlt,hlc⟩,hl]
  .refine y3j hcb (fun i hi=>?_) ?_
   .obtain⟨v,h1,h2⟩:=hval i hi
    exact⟨v,ck i v h1,h2⟩
   .by_cases hl0:l.length=0
    .obtain⟨v,hv⟩:=hcell 0 (by omega)
     have:=(Array.getElem?_eq_some_iff.1 (ck 0 v hv)).1
     omega
    .obtain⟨v,hv⟩:=hcell (l.length-1) (by omega)
     have:=(Array.getElem?_eq_some_iff.1 (ck _ v hv)).1
     omega
theorem y44{W:World}{a:Addr}{len cap:Nat}{l:List AVal}(hl:l.length=len)(hlc:len<=cap)(h0:∃ arr e fz,W.heap[0]? = some (.cells arr e fz))(hcell:∀ i,i<cap->∃ v,W.cell? (a.add i)=some v)(hval:∀ i (hi:i<l.length),∃ v,W.cell? (a.add i)=some v/\absV W.heap.size v=l[i]) :
  z4s (absH W).nx.toNat (absH W) (absS W.heap.size a len cap) l:=by
 obtain⟨b,o,cap',e1,e2,e3,e4⟩:=y43 hl hlc h0 hcell hval
 exact .inr ⟨b,o,cap',0,e1,e2,e3,.inl rfl,e4⟩
section
variable{Hh:Type}{enc:TypeId×Value->Hh}{P:Program}{W:World}{held:Bool}
theorem j3j{t e:TypeId}{k:IntKind}{fuel:Nat}{v:Value}{x:DataW Hh×List MemPlace}(ht:P.underlying t=some (.slice e))(he:P.underlying e=some (.int k))(hc:P.cellsOf e=1)(h0:∃ arr e fz,W.heap[0]? = some (.cells arr e fz))
  (h:DataW.trod enc P W 0 (fun _=>true) held fuel t [v]=some x) :
  ∃ zs:List Int,z4s (absH W).nx.toNat (absH W) (absV W.heap.size v) (zs.map (.int k))/\(∀ z∈zs,(Lit.int k z).wf=true)/\(x.1=.nil/\zs=[]\/∃ sp,x.1=.slice (lits k zs) sp):=by
 rcases open_ints ht he hc h with⟨hcs,hx⟩ | ⟨a,len,cap,zs,hcs,_,hlc,hm,hz,hx,hcell,hwz⟩
 .cases hcs
  exact⟨[],.inl ⟨rfl,rfl⟩,by simp,.inl ⟨by rw[hx],rfl⟩⟩
 .cases hcs
  simp only[if_true]at hz
  refine⟨zs.take len,y44 (by simp;omega) hlc h0 (fun i hi=>⟨_,hcell i (by omega)⟩) (fun i hi=>⟨_,hcell i (by simp at hi;omega),?_⟩),fun z hz'=>hwz z (List.mem_of_mem_take hz'),.inr ⟨_,by rw[hx]⟩⟩
  simp only[List.length_map,List.length_take]at hi
  simp only[absV,List.getElem_map,List.getElem_take]
  rw[List.getD,List.getElem?_eq_getElem (by omega)]
  rfl
end
section
variable{Hh:Type}{enc:TypeId×Value->Hh}{P:Program}{W:World}{held:Bool}
end
section
variable{Hh:Type}{enc:TypeId×Value->Hh}{P:Program}{W:World}{held:Bool}
end
noncomputable def z87(P:Program)(T:Tys)(B:Nat)(f:FuncId)(v:List AVal->AVal) :List AVal->AHeap->ARes:=fun args H =>
 open Classical in if (∀ φ w args',HRel T B φ H w→LRel φ args args'.toList→z7q P T B φ H w f args' (v args) H) then some (v args,H) else none
theorem j6v(P:Program)(T:Tys)(B:Nat)(f:FuncId)(v:List AVal->AVal) :z2k P T B f (z87 P T B f v):=by
 intro φ H w args args' u H' hH hl hs
 unfold z87 at hs
 split at hs
 .rename_i hc
  cases hs
  exact hc φ w args' hH hl
 .cases hs
theorem y7m{P:Program}{T:Tys}{B:Nat}{f:FuncId}{v:List AVal->AVal}{args:List AVal}{H:AHeap}(h:∀ φ w args',HRel T B φ H w->LRel φ args args'.toList->z7q P T B φ H w f args' (v args) H) :z87 P T B f v args H=some (v args,H):=by
 unfold z87
 rw[if_pos h]
def j72:AVal->Bool
 | .bool _ | .int _ _ | .str _=>true
 | _=>false
theorem y2t{φ φ':Emb}{a:AVal}{v:Value}(h:j72 a=true)(r:VRel φ a v) :VRel φ' a v:=by
 cases a<;>first | exact r | cases h
theorem HRel.part{T:Tys}{B:Nat}{φ:Emb}{H H0:AHeap}{w:World}(h:HRel T B φ H w)(hsub:∀ p o,PT.get p H0.t=some o->PT.get p H.t=some o/\∃ l,o=.cells l false true/\l.all j72=true)(hnx:H0.nx.toNat<=H.nx.toNat)(hdom:∀ p,PT.get p H0.t≠none->p.toNat<H0.nx.toNat)(hg:∀ g,g<T.ng->(Pos.ofNat g).toNat<H0.nx.toNat) :
  HRel T w.heap.size (fun p=>if p.toNat<H0.nx.toNat then φ p else none) H0 w:=by
 have hφ:∀ {p x},(fun p=>if p.toNat<H0.nx.toNat then φ p else none) p=some x->p.toNat<H0.nx.toNat/\φ p=some x:=by
  intro p x hx
  simp only at hx
  split at hx
  .rename_i hlt;exact⟨hlt,hx⟩
  .cases hx
 refine⟨fun p o x hp hx=>?_,fun p q x y hpq hp hq hx hy=>?_,fun p x hx=>?_,hdom,lr,fun g hg'=>?_⟩
 .obtain⟨hlt,hx⟩:=hφ hx
  obtain⟨hp',l,rfl,hfl⟩:=hsub p o hp
  obtain⟨arr,e,lo,hi,h1,h2,h3,h4,h5,h6,h7⟩:=h.obj p _ x hp' hx
  refine⟨arr,e,lo,hi,h1,h2,h3,fun i a hi=>?_,.inr (.inr rfl),fun _ h=>(by cases h),fun h=>(by cases h)⟩
  obtain⟨v,e1,e2⟩:=h4 i a hi
  have ha:j72 a=true:=List.all_eq_true.1 hfl a (List.mem_of_getElem? hi)
  exact⟨v,e1,y2t ha e2⟩
 .obtain⟨_,hx⟩:=hφ hx
  obtain⟨_,hy⟩:=hφ hy
  refine h.inj p q x y hpq (fun e=>?_) (fun e=>?_) hx hy
  .cases ho:PT.get p H0.t with
   | none=>exact hp ho
   | some o=>rw[(hsub p o ho).1]at e;cases e
  .cases ho:PT.get q H0.t with
   | none=>exact hq ho
   | some o=>rw[(hsub q o ho).1]at e;cases e
 .obtain⟨h1,hx⟩:=hφ hx
  exact⟨h1,(h.low p x hx).2⟩
 .obtain⟨k,hk⟩:=h.glob g hg'
  exact⟨k,by simp only[hg g hg',if_true];exact hk⟩
theorem j3n:∀ (l:List (Nat×AObj)) (t:PT AObj) (p:Pos) (o:AObj),PT.get p (z1v l t)=some o->(∃ q∈l,p=Pos.ofNat q.1/\o=q.2)\/PT.get p t=some o
 | [],t,p,o,h=>.inr h
 | x::l,t,p,o,h=>by
  simp only[z1v]at h
  rcases j3n l _ p o h with⟨q,hq,e⟩ | h
  .exact .inl ⟨q,List.mem_cons_of_mem _ hq,e⟩
  .by_cases e:Pos.ofNat x.1=p
   .subst e
    rw[PT.get_set_same]at h
    exact .inl ⟨x,by simp,rfl,(Option.some.inj h).symm⟩
   .rw[PT.get_set_other _ _ _ _ e]at h
    exact .inr h
theorem q2f{n:Nat}{a:AVal}{v:Value}(h:j72 a=true)(r:∀ φ,VRel φ a v) :absV n v=a:=by
 replace r:=r fun _=>none
 cases a<;>first | cases h | skip
 .have r:v=_:=r;subst r;rfl
 .have r:v=_:=r;subst r;rfl
 .rename_i s₀
  obtain⟨rfl,hs⟩:=r
  simp only[absV]
  congr 1
  simp only[List.toList_toArray,List.map_map]
  conv=>rhs;rw[<-List.map_id s₀]
  refine List.map_congr_left fun x hx=>?_
  have:=hs x hx
  simp only[Function.comp,UInt8.toNat_ofNat',id]
  omega
theorem j71{n:Nat} :∀ {l:List AVal} {vs:List Value},l.all j72=true->(∀ φ,LRel φ l vs)->vs.map (absV n)=l
 | [],vs,_,r=>by
  have:vs=[]:=r fun _=>none
  rw[this]
  rfl
 | a::l,vs,h,r=>by
  simp only[List.all_cons,Bool.and_eq_true]at h
  obtain⟨v,ws,rfl,_,_⟩:=r fun _=>none
  have r1:∀ φ,VRel φ a v/\LRel φ l ws:=fun φ=>by
   obtain⟨v',ws',e,h1,h2⟩:=r φ
   cases e
   exact⟨h1,h2⟩
  simp only[List.map_cons,q2f h.1 (fun φ=>(r1 φ).1),j71 h.2 (fun φ=>(r1 φ).2)]
def tabH(ng:Nat)(objs:List (Nat×List AVal)) :AHeap:=⟨z1v (objs.map fun p=>(p.1,.cells p.2 false true)) .l,Pos.ofNat ng⟩
theorem j51{P:Program}{T:Tys}{B:Nat}{W:World}{f:FuncId}{objs:List (Nat×List AVal)}{v:AVal}{h1:AHeap}(hng:T.ng<=W.heap.size)(h31:T.ng<2147483648)(hobj:∀ q∈objs,q.1<T.ng/\Lies W q.1 q.2/\q.2.all j72=true)(hv:j72 v=true)
  (hrun:∀ φ w,HRel T w.heap.size φ (tabH T.ng objs) w->z4r P T w.heap.size φ (tabH T.ng objs) w f #[] v h1) :∀ φ w (args':Array Value),HRel T B φ (absH W) w->LRel φ [] args'.toList->z7q P T B φ (absH W) w f args' v (absH W):=by
 intro φ w args' hH hl
 have hto:∀ g,g<2^31->(Pos.ofNat g).toNat=g+1:=fun g hg=>Pos.toNat_ofNat hg
 have ha:args'=#[]:=by
  have:args'.toList=[]:=hl
  simpa using this
 subst ha
 have hinv:∀ p o,PT.get p (tabH T.ng objs).t=some o->∃ q∈objs,p=Pos.ofNat q.1/\o=.cells q.2 false true:=by
  intro p o h
  rcases j3n _ _ p o h with⟨q,hq,e1,e2⟩ | h
  .obtain⟨q',hq',rfl⟩:=List.mem_map.1 hq
   exact⟨q',hq',e1,e2⟩
  .rw[z2o]at h;cases h
 have hH0:=hH.part (H0:=tabH T.ng objs) (fun p o h=>by
  obtain⟨q,hq,rfl,rfl⟩:=hinv p o h
  obtain⟨h1,⟨arr,e,fz,hb,hr⟩,h3⟩:=hobj q hq
  refine⟨?_,_,rfl,h3⟩
  rw[<-q08 (by omega),j6b hb,j71 h3 hr]) (by rw[j6a];show(Pos.ofNat T.ng).toNat<=_;rw[hto _ h31];omega) (fun p hp=>by
   cases hh:PT.get p (tabH T.ng objs).t with
   | none=>exact absurd hh hp
   | some o =>
    obtain⟨q,hq,rfl,_⟩:=hinv p o hh
    have:=(hobj q hq).1
    show _<(Pos.ofNat T.ng).toNat
    rw[hto _ h31,hto _ (by omega)]
    omega) (fun g hg=>by show _<(Pos.ofNat T.ng).toNat;rw[hto _ h31,hto _ (by omega)];omega)
 obtain⟨g1,g2⟩:=hrun _ w hH0
 refine .inl ⟨g1,CallsIn.mono g2 ?_⟩
 rintro e w' ⟨u,φ',rfl,hvu,hS⟩
 exact⟨u,φ,rfl,y2t hv hvu,Sim.grown hH hS.below⟩
theorem y8e{P:Program}{T:Tys}{E:Env}{W:World}(hT:TOk2 T P)(hE:EnvOk P T W.heap.size E)(hm:P.follows .mixedOrders=true)(hng:T.ng<=W.heap.size)(h31:T.ng<2147483648){f:FuncId}(hf:PT.get (Pos.ofNat f) E.sums=none){args:Array Value}{b:Bool}{H':AHeap}(h:z0f E f (args.toList.map (absA W.heap.size)) (absH W) (.bool b) H') :
  Calls P f args W fun e W'=>e=.returned (.bool b)/\Below W.heap.size W W':=by
 obtain⟨n,h⟩:=h
 have h:=h n lr
 unfold z9p at h
 rw[hf]at h
 have h:callF E (ev E n) f (args.toList.map (absA W.heap.size)) (absH W)=some (.bool b,H'):=by
  cases hb:Nat.blt f 2147483648<;>rw[hb]at h<;>exact h
 exact(j4r hT hE hm (HRel.world hng h31) (j8q W args.toList) h).calls fun u φ' w' hv hS=>by
  have hv:u=.bool b:=hv
  subst hv
  exact⟨rfl,hS.below⟩
end Go.Am
end
section
namespace Go.Am
open Go Go.RowKit
section
variable{P:Program}{T:Tys}{B:Nat}{φ:Emb}{H:AHeap}{w:World}{nt:Nat}{t:PT AVal}{a:Act}{ops:Array Oper}{rest:List Oper}{o:Oper}{r:Option Nat}{Q:Exit->Act->World->Prop}{ds:List ADef}
end
end Go.Am
end
