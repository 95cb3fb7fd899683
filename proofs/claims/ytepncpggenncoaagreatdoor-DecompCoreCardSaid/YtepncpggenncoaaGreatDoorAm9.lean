import Derived.Test.YtepncpggenncoaaGreatDoorAm8
import Derived.OrdersIn
set_option linter.unusedSimpArgs false
set_option linter.unusedVariables false
set_option maxHeartbeats 8000000
namespace Go.Am
open Go Go.RowKit
section
variable{t t':PT AVal}{H:AHeap}
def z0x(t t':PT AVal)(l:List Pos) :Prop:=∀ p∈l,tget t p=tget t' p
theorem z0x.left{l m:List Pos}(h:z0x t t' (l++m)) :z0x t t' l:=fun p hp=>h p (List.mem_append_left _ hp)
theorem z0x.right{l m:List Pos}(h:z0x t t' (l++m)) :z0x t t' m:=fun p hp=>h p (List.mem_append_right _ hp)
theorem z0x.ev{x:AOpnd}(h:z0x t t' x.tmp) :x.ev t=x.ev t':=by
 cases x with
 | t p=>exact h p (by simp[AOpnd.tmp])
 | c v=>rfl
theorem z0x.evs:∀ {l:List AOpnd},z0x t t' (y3s l)->evs t l=evs t' l
 | [],_=>rfl
 | x::l,h=>by simp only[Am.evs,z0x.ev (z0x.left h),z0x.evs (z0x.right h)]
theorem z0x.fill:∀ {ps:List (Nat×Nat×AOpnd)} {z:List AVal},z0x t t' (q5y ps)->z32 z t ps=z32 z t' ps
 | [],_,_=>rfl
 | (off,size,x)::ps,z,h=>by
  simp only[z32,z0x.ev (z0x.left h)]
  split
  .split
   .split
    .exact z0x.fill (z0x.right h)
    .rfl
   .rfl
  .rfl
theorem z0x.bound{x:Option AOpnd}{d m:Nat}(h:z0x t t' (j8x x)) :z08 t x d m=z08 t' x d m:=by
 cases x with
 | none=>rfl
 | some o=>simp only[z08,z0x.ev (x:=o) h]
theorem z0x.slice{k:ASlk}{x:AVal}{lo hi mx:Option AOpnd}(h1:z0x t t' (j8x lo))(h2:z0x t t' (j8x hi))(h3:z0x t t' (j8x mx)) :z0w t k x lo hi mx=z0w t' k x lo hi mx:=by
 have e1:∀ d m,z08 t lo d m=z08 t' lo d m:=fun d m=>z0x.bound h1
 have e2:∀ d m,z08 t hi d m=z08 t' hi d m:=fun d m=>z0x.bound h2
 have e3:∀ d m,z08 t mx d m=z08 t' mx d m:=fun d m=>z0x.bound h3
 unfold z0w
 simp only[e1,e2,e3]
theorem j1n{op:AOp}(h:z0x t t' op.tmps) :quiet t H op=quiet t' H op:=by
 cases op with
 | move x=>simp only[quiet,z0x.ev (x:=x) h]
 | pick c a b=>simp only[quiet,z0x.ev (x:=c) h.left,z0x.ev (x:=a) h.right.left,z0x.ev (x:=b) h.right.right]
 | build z ps=>simp only[quiet,z0x.fill (ps:=ps) h]
 | load1 x=>simp only[quiet,z0x.ev (x:=x) h]
 | loadN n x=>simp only[quiet,z0x.ev (x:=x) h]
 | nilCheck x=>simp only[quiet,z0x.ev (x:=x) h]
 | bin op x y=>simp only[quiet,z0x.ev (x:=x) h.left,z0x.ev (x:=y) h.right]
 | eq neg k x y=>simp only[quiet,z0x.ev (x:=x) h.left,z0x.ev (x:=y) h.right]
 | un op x=>simp only[quiet,z0x.ev (x:=x) h]
 | conv c x=>simp only[quiet,z0x.ev (x:=x) h]
 | fieldAddr off x=>simp only[quiet,z0x.ev (x:=x) h]
 | idxS sz x i=>simp only[quiet,z0x.ev (x:=x) h.left,z0x.ev (x:=i) h.right]
 | idxA n sz x i=>simp only[quiet,z0x.ev (x:=x) h.left,z0x.ev (x:=i) h.right]
 | field1 off x=>simp only[quiet,z0x.ev (x:=x) h]
 | fieldN off n x=>simp only[quiet,z0x.ev (x:=x) h]
 | idxStr x i=>simp only[quiet,z0x.ev (x:=x) h.left,z0x.ev (x:=i) h.right]
 | idxArr n x i=>simp only[quiet,z0x.ev (x:=x) h.left,z0x.ev (x:=i) h.right]
 | slice k x lo hi mx=>simp only[quiet,z0x.ev (x:=x) h.left,z0x.slice (k:=k) h.right.left h.right.right.left h.right.right.right]
 | s2ap n x=>simp only[quiet,z0x.ev (x:=x) h]
 | mkI ty x=>simp only[quiet,z0x.ev (x:=x) h]
 | mkF f a b=>simp only[quiet,z0x.evs (l:=a) h.left,z0x.evs (l:=b) h.right]
 | lookup q z x k ok=>simp only[quiet,z0x.ev (x:=x) h.left,z0x.ev (x:=k) h.right]
 | extract x i=>simp only[quiet,z0x.ev (x:=x) h]
 | len k x=>simp only[quiet,z0x.ev (x:=x) h]
 | mm b l=>simp only[quiet,z0x.evs (l:=l) h]
 | _=>rfl
theorem j8v{op:AOp}(h:z0x t t' op.tmps) :z01 t H op=z01 t' H op:=by
 have hq:=j1n (H:=H) h
 cases op with
 | alloc z=>rfl
 | box x=>simp only[z01,z0x.ev (x:=x) h]
 | buildSlice z len ps=>simp only[z01,z0x.fill (ps:=ps) h]
 | store n x y=>simp only[z01,z0x.ev (x:=x) h.left,z0x.ev (x:=y) h.right]
 | conv c x=>cases c with
  | strBytes=>simp only[z01,z0x.ev (x:=x) h]
  | mark=>simp only[z01,z0x.ev (x:=x) h]
  | toInt k=>simp only[z01,hq]
  | bytesStr=>simp only[z01,hq]
  | same=>simp only[z01,hq]
 | clear z x=>simp only[z01,z0x.ev (x:=x) h]
 | mkMap=>rfl
 | mkSlice z b l c=>simp only[z01,z0x.ev (x:=l) h.left,z0x.ev (x:=c) h.right]
 | mapUpdate q m k v=>simp only[z01,j06,z0x.ev (x:=m) h.left,z0x.ev (x:=k) h.right.left,z0x.ev (x:=v) h.right.right]
 | append a b x y=>simp only[z01,z0x.ev (x:=x) h.left,z0x.ev (x:=y) h.right]
 | copy a x y=>simp only[z01,z0x.ev (x:=x) h.left,z0x.ev (x:=y) h.right]
 | _=>simp only[z01,hq]
theorem j91{E:Env}{rec:Rec}{op:AOp}(h:z0x t t' op.tmps) :z1o E rec t H op=z1o E rec t' H op:=by
 have hw:=j8v (H:=H) h
 cases op with
 | callF f l=>simp only[z1o,z0x.evs (l:=l) h]
 | callV f l=>simp only[z1o,z0x.ev (x:=f) h.left,z0x.evs (l:=l) h.right]
 | _=>exact hw
theorem z78{g:Option (Pos×Bool)}(h:∀ p∈q5z g,PT.get p t=PT.get p t') :z0y t g=z0y t' g:=by
 cases g with
 | none=>rfl
 | some g=>simp only[z0y,h g.1 (by simp[q5z])]
end
def HLe(H H':AHeap) :Prop:=∀ p o,PT.get p H.t=some o->PT.get p H'.t=some o
section
variable{t:PT AVal}{H H':AHeap}
theorem y4l(h:HLe H H'){b:Pos}{o:Nat}{v:AVal}(e:z04 H b o=some v) :z04 H' b o=some v:=by
 unfold z04 at e ⊢
 split at e
 .rename_i hb;rw[h _ _ hb];exact e
 .cases e
theorem j14(h:HLe H H'){b:Pos}{o n:Nat}{v:List AVal}(e:z0t H b o n=some v) :z0t H' b o n=some v:=by
 unfold z0t at e ⊢
 split at e
 .rename_i hb;rw[h _ _ hb];exact e
 .cases e
theorem j7p(h:HLe H H'){b:Pos}(e:live H b=true) :live H' b=true:=by
 unfold live at e ⊢
 split at e
 .rename_i hb;rw[h _ _ hb]
 .cases e
theorem z8v(h:HLe H H'){q:EqK}{x y:AVal}{r:Bool}(e:eqS H q x y=some r) :eqS H' q x y=some r:=by
 cases q with
 | ptr =>
  simp only[eqS]at e ⊢
  split at e
  .exact e
  .exact e
  .exact e
  .split at e
   .exact e
   .split at e
    .rename_i l1 l2
     simp only[j7p h l1,j7p h l2]
     exact e
    .cases e
  .cases e
 | _=>exact e
theorem y22(h:HLe H H') :∀ {qs:List EqK} {l m:List AVal} {r:Bool},eqL H qs l m=some r->eqL H' qs l m=some r
 | [],[],[],r,e=>e
 | q::qs,a::l,b::m,r,e=>by
  simp only[eqL]at e ⊢
  split at e
  .rename_i hq;rw[z8v h hq];exact y22 h e
  .rename_i hq;rw[z8v h hq];exact e
  .cases e
 | [],_::_,_,_,e=>by simp[eqL]at e
 | [],[],_::_,_,e=>by simp[eqL]at e
 | _::_,[],_,_,e=>by simp[eqL]at e
 | _::_,_::_,[],_,e=>by simp[eqL]at e
theorem q2k(h:HLe H H'){k:EqKs}{x y:AVal}{r:Bool}(e:eqV H k x y=some r) :eqV H' k x y=some r:=by
 cases k with
 | one q=>exact z8v h e
 | cells qs =>
  simp only[eqV]at e ⊢
  split at e
  .exact y22 h e
  .cases e
theorem z6t(h:HLe H H'){q:EqK}{k:AVal} :∀ {es:List (AVal×AVal)} {r:Option AVal},findKey H q k es=some r->findKey H' q k es=some r
 | [],r,e=>e
 | (k',v)::es,r,e=>by
  simp only[findKey]at e ⊢
  split at e
  .rename_i hq
   rw[z8v h hq]
   split at e
   .rename_i hf
    simp only[z6t h hf]
    exact e
   .cases e
  .rename_i hq
   rw[z8v h hq]
   exact z6t h e
  .cases e
def y75(H:AHeap)(q:EqK)(k:AVal) :AVal->Option (Option AVal)
 | .mnil=>some none
 | .map b=>match z3n (PT.get b H.t)with
  | some es=>findKey H q k es
  | _=>none
 | _=>none
def y76(H:AHeap)(q:EqK)(k X:AVal) :Option (Option AVal):=match z3o q k with | true=>y75 H q k X | false=>none
theorem j87{q:EqK}{z:AVal}{x k:AOpnd}{ok:Bool} :quiet t H (.lookup q z x k ok)=(match y76 H q (k.ev t) (x.ev t)with
  | some (some v)=>some (match ok with | true=>.tup [v,.bool true] | false=>v)
  | some none=>some (match ok with | true=>.tup [z,.bool false] | false=>z)
  | none=>none):=by
 simp only[quiet,y76]
 cases z3o q (k.ev t)
 .rfl
 .simp only[y75]
  cases x.ev t<;>rfl
theorem j0b(h:HLe H H'){b:Pos}{es:List (AVal×AVal)}(e:z3n (PT.get b H.t)=some es) :z3n (PT.get b H'.t)=some es:=by
 cases hb:PT.get b H.t with
 | none=>rw[hb]at e;cases e
 | some o=>rw[h _ _ hb];rw[hb]at e;exact e
theorem j3u(h:HLe H H'){q:EqK}{k X:AVal}{r:Option AVal}(hr:y76 H q k X=some r) :y76 H' q k X=some r:=by
 unfold y76 at hr ⊢
 cases hfit:z3o q k with
 | false=>rw[hfit]at hr;cases hr
 | true =>
 rw[hfit]at hr
 simp only at hr ⊢
 cases X with
 | mnil=>exact hr
 | map b =>
  simp only[y75]at hr ⊢
  split at hr
  .rename_i hb;rw[j0b h hb];exact z6t h hr
  .cases hr
 | _=>cases hr
theorem y37(h:HLe H H'){op:AOp}{v:AVal}(e:quiet t H op=some v) :quiet t H' op=some v:=by
 cases op with
 | load1 x =>
  simp only[quiet]at e ⊢
  split at e
  .exact y4l h e
  .cases e
 | loadN n x =>
  simp only[quiet]at e ⊢
  split at e
  .split at e
   .rename_i hl;rw[j14 h hl];exact e
   .cases e
  .cases e
 | eq neg k x y =>
  simp only[quiet]at e ⊢
  split at e
  .rename_i hq;rw[q2k h hq];exact e
  .cases e
 | conv c x =>
  cases c with
  | bytesStr =>
   simp only[quiet]at e ⊢
   split at e
   .exact e
   .split at e
    .rename_i hl;rw[j14 h hl];exact e
    .cases e
   .cases e
  | _=>exact e
 | lookup q z x k ok =>
  rw[j87]at e ⊢
  split at e
  .rename_i hr;rw[j3u h hr];exact e
  .rename_i hr;rw[j3u h hr];exact e
  .cases e
 | len k x =>
  simp only[quiet]at e ⊢
  split at e
  .exact e
  .exact e
  .split at e
   .exact e
   .split at e
    .rename_i hb;rw[j0b h hb];exact e
    .cases e
   .cases e
 | _=>exact e
end
theorem j0u(m b:Nat) :hasB m b=true↔∀ i,b.testBit i=true->m.testBit i=true:=by
 unfold hasB
 have h0:Nat.beq (Nat.land m b) b=true↔(m&&&b)=b:=⟨fun h=>Nat.eq_of_beq_eq_true h,fun h=>by
  have:Nat.land m b=b:=h
  rw[this];exact Nat.beq_refl b⟩
 rw[h0]
 constructor
 .intro h i hi
  have:=congrArg (fun z=>z.testBit i) h
  simp only[Nat.testBit_and,hi,Bool.and_true]at this
  exact this
 .intro h
  apply Nat.eq_of_testBit_eq
  intro i
  rw[Nat.testBit_and]
  cases hb:b.testBit i with
  | false=>simp
  | true=>simp[h i hb]
theorem z1t(i j:Nat) :(2^i).testBit j=true↔i=j:=by
 rw[Nat.testBit_two_pow];simp
theorem j5h(m i:Nat) :hasB m (2^i)=true↔m.testBit i=true:=by
 rw[j0u]
 exact⟨fun h=>h i ((z1t i i).2 rfl),fun h j hj=>by rw[<-(z1t i j).1 hj];exact h⟩
theorem z96(m i:Nat) :Nat.beq (Nat.land m (2^i)) 0=true↔m.testBit i=false:=by
 have h0:Nat.beq (Nat.land m (2^i)) 0=true↔(m&&&2^i)=0:=⟨fun h=>Nat.eq_of_beq_eq_true h,fun h=>by
  have:Nat.land m (2^i)=0:=h
  rw[this];rfl⟩
 rw[h0]
 constructor
 .intro h
  have:=congrArg (fun z=>z.testBit i) h
  simp only[Nat.testBit_and,(z1t i i).2 rfl,Bool.and_true,Nat.zero_testBit]at this
  exact this
 .intro h
  apply Nat.eq_of_testBit_eq
  intro j
  rw[Nat.testBit_and,Nat.zero_testBit]
  by_cases e:i=j
  .subst e;simp[h]
  .have:(2^i).testBit j=false:=by
    cases hb:(2^i).testBit j with
    | false=>rfl
    | true=>exact absurd ((z1t i j).1 hb) e
   simp[this]
theorem y74(m i j:Nat) :(Nat.lor m (2^i)).testBit j=true↔m.testBit j=true\/i=j:=by
 show(m ||| 2^i).testBit j=true↔_
 rw[Nat.testBit_or,Bool.or_eq_true,z1t]
structure DOk (T:Tys) (nt:Nat) (ops:List Oper) (e:ADraw) :Prop where
 op:∃ o,ops[e.idx]? = some o/\z8z T nt ops o=some e.o/\e.need=z94 o.after.toList
 cls:e.cls=j50 e.o.op
 bit:e.bit=2^e.idx
theorem j0f{T:Tys}{nt:Nat}{ops:List Oper} :∀ {l:List Oper} {i:Nat} {before:List Nat} {D:List ADraw},z61 T nt ops l i before=some D->(∀ j,l[j]? = ops[i+j]?) →
  (∀ e∈D,DOk T nt ops e/\i<=e.idx)/\(∀ e∈D,∀ f∈D,e.idx=f.idx->e=f)
 | [],i,before,D,h,_=>by
  simp[z61]at h
  subst h
  exact⟨by simp,by simp⟩
 | o::l,i,before,D,h,hl=>by
  simp only[z61]at h
  split at h
  .rename_i ao hao
   split at h
   .rename_i m hm
    cases h
    obtain⟨g1,g2⟩:=j0f hm (fun j=>by
     have:=hl (j+1)
     simp only[List.getElem?_cons_succ]at this
     rw[this];congr 1;omega)
    have h0:ops[i]? = some o:=by have:=hl 0;simpa using this.symm
    refine⟨?_,?_⟩
    .intro e he
     rcases List.mem_cons.1 he with rfl | he
     .exact⟨⟨⟨o,h0,hao,rfl⟩,rfl,rfl⟩,lr⟩
     .exact⟨(g1 e he).1,by have:=(g1 e he).2;omega⟩
    .intro e he f hf hef
     rcases List.mem_cons.1 he with rfl | he
     .rcases List.mem_cons.1 hf with rfl | hf
      .rfl
      .have:=(g1 f hf).2;simp only at hef;omega
     .rcases List.mem_cons.1 hf with rfl | hf
      .have:=(g1 e he).2;simp only at hef;omega
      .exact g2 e he f hf hef
   .cases h
  .cases h
theorem z6k{D:List ADraw}{k:Nat}{b:Bool} :∀ {l:List ADraw},∀ e∈j45 D k b l,e∈l
 | [],e,h=>by simp[j45]at h
 | d::l,e,h=>by
  simp only[j45]at h
  split at h
  .rcases List.mem_cons.1 h with rfl | h
   .simp
   .exact List.mem_cons_of_mem _ (z6k e h)
  .exact List.mem_cons_of_mem _ (z6k e h)
theorem z9a{D:List ADraw} :∀ {k:Nat},∀ e∈j7g D k,e∈D
 | 0,e,h=>by
  simp only[j7g,List.mem_append]at h
  rcases h with h | h<;>exact z6k e h
 | k+1,e,h=>by
  simp only[j7g,List.mem_append]at h
  rcases h with h | h | h
  .exact z9a e h
  .exact z6k e h
  .exact z6k e h
theorem z72{need:Nat}{i:Nat} :∀ {D:List ADraw},(∀ x∈D,x.bit=2^x.idx)->(z73 D need).testBit i=true->need.testBit i=true\/∃ x∈D,need.testBit x.idx=true/\x.ahead.testBit i=true
 | [],_,h=>by simp[z73]at h
 | x::l,hb,h=>by
  have hx:=hb x (by simp)
  simp only[z73]at h
  split at h
  .rename_i hn
   rw[hx,j5h]at hn
   have h:((x.bit ||| x.ahead) ||| z73 l need).testBit i=true:=h
   rw[Nat.testBit_or,Nat.testBit_or,Bool.or_eq_true,Bool.or_eq_true]at h
   rcases h with(h | h) | h
   .rw[hx,z1t]at h
    left;rw[<-h];exact hn
   .exact .inr ⟨x,by simp,hn,h⟩
   .rcases z72 (fun y hy=>hb y (List.mem_cons_of_mem _ hy)) h with h | ⟨y,hy,h⟩
    .exact .inl h
    .exact .inr ⟨y,List.mem_cons_of_mem _ hy,h⟩
  .rcases z72 (fun y hy=>hb y (List.mem_cons_of_mem _ hy)) h with h | ⟨y,hy,h⟩
   .exact .inl h
   .exact .inr ⟨y,List.mem_cons_of_mem _ hy,h⟩
structure EOk (D done:List ADraw) (e:ADraw) :Prop where
 new:∀ x∈done,x.idx≠e.idx
 need:∀ i,e.need.testBit i=true->∃ x∈done,x.idx=i
 loud:∀ x∈done,x.cls=2->e.ahead.testBit x.idx=true
 dep:∀ p∈e.o.tmps,∀ x∈D,x.o.dst=some p->x.idx=e.idx\/e.ahead.testBit x.idx=true\/x.ahead.testBit e.idx=true
 dst:∀ x∈D,x.idx=e.idx\/∀ p,x.o.dst=some p->e.o.dst≠some p
 clo:∀ i,e.ahead.testBit i=true->e.need.testBit i=true\/∃ x∈D,e.need.testBit x.idx=true/\x.ahead.testBit i=true
theorem j3e{D:List ADraw}{n:Nat}(hb:∀ x∈D,x.bit=2^x.idx) :∀ {l done:List ADraw} {M ML:Nat},j1g D n l M ML=true->(∀ x∈l,x∈D)->(∀ i,M.testBit i=true↔∃ x∈done,x.idx=i)->(∀ i,ML.testBit i=true↔∃ x∈done,x.cls=2/\x.idx=i) →
  (∀ l1 e l2,l=l1++e::l2->EOk D (done++l1) e)/\∀ i,i<n->∃ x∈done++l,x.idx=i
 | [],done,M,ML,h,_,hM,_=>by
  refine⟨fun l1 e l2 h=>(by simp at h),fun i hi=>?_⟩
  simp only[j1g]at h
  have h:=Nat.eq_of_beq_eq_true h
  rw[List.append_nil,<-hM i,h]
  show(2^n-1).testBit i=true
  rw[Nat.testBit_two_pow_sub_one];simpa using hi
 | e::l,done,M,ML,h,hl,hM,hML=>by
  simp only[j1g,Bool.and_eq_true]at h
  obtain⟨⟨h1,h2,h3,h4,h5,h6⟩,h7⟩:=h
  have he:=hl e (by simp)
  have hbe:=hb e he
  rw[hbe,z96]at h1
  have heok:EOk D done e:=by
   refine⟨fun x hx hxe=>?_,fun i hi=>(hM i).1 ((j0u _ _).1 h2 i hi),fun x hx hc=>(j0u _ _).1 h3 _ ((hML _).2 ⟨x,hx,hc,rfl⟩),fun p hp x hx hd=>?_,fun x hx=>?_,fun i hi=>z72 hb ((j0u _ _).1 h6 i hi)⟩
   .have:=(hM e.idx).2 ⟨x,hx,hxe⟩
    rw[h1]at this;cases this
   .have:=List.all_eq_true.1 (List.all_eq_true.1 h4 p hp) x hx
    rw[hd]at this
    simp only[Pos.beq_eq.2 rfl]at this
    rw[Bool.or_eq_true,Bool.or_eq_true,hb x hx,hbe,j5h,j5h]at this
    rcases this with h | h | h
    .exact .inl (Nat.eq_of_beq_eq_true h)
    .exact .inr (.inl h)
    .exact .inr (.inr h)
   .have:=List.all_eq_true.1 h5 x hx
    rw[Bool.or_eq_true]at this
    rcases this with h | h
    .exact .inl (Nat.eq_of_beq_eq_true h)
    .right
     intro p hp hq
     rw[hp,hq]at h
     simp[Pos.beq_eq.2 rfl]at h
  obtain⟨g1,g2⟩:=j3e (done:=done++[e]) hb h7 (fun x hx=>hl x (List.mem_cons_of_mem _ hx)) (fun i=>by
   rw[hbe,y74,hM i]
   constructor
   .rintro(⟨x,hx,h⟩ | h)
    .exact⟨x,List.mem_append_left _ hx,h⟩
    .exact⟨e,by simp,h⟩
   .rintro⟨x,hx,h⟩
    rcases List.mem_append.1 hx with hx | hx
    .exact .inl ⟨x,hx,h⟩
    .simp at hx;subst hx;exact .inr h) (fun i=>by
   split
   .rename_i hc
    have hc:=Nat.eq_of_beq_eq_true hc
    rw[hbe,y74,hML i]
    constructor
    .rintro(⟨x,hx,h⟩ | h)
     .exact⟨x,List.mem_append_left _ hx,h⟩
     .exact⟨e,by simp,hc,h⟩
    .rintro⟨x,hx,h⟩
     rcases List.mem_append.1 hx with hx | hx
     .exact .inl ⟨x,hx,h⟩
     .simp at hx;subst hx;exact .inr h.2
   .rename_i hc
    rw[hML i]
    constructor
    .rintro⟨x,hx,h⟩
     exact⟨x,List.mem_append_left _ hx,h⟩
    .rintro⟨x,hx,h⟩
     rcases List.mem_append.1 hx with hx | hx
     .exact⟨x,hx,h⟩
     .simp at hx;subst hx
      rw[h.1]at hc
      exact absurd (Nat.beq_refl 2) (by rw[hc];simp))
  refine⟨fun l1 e' l2 hl'=>?_,fun i hi=>?_⟩
  .cases l1 with
   | nil =>
    simp at hl'
    obtain⟨rfl,_⟩:=hl'
    simpa using heok
   | cons y l1 =>
    simp at hl'
    obtain⟨rfl,hl'⟩:=hl'
    have:=g1 l1 e' l2 hl'
    simpa using this
  .obtain⟨x,hx,h⟩:=g2 i hi
   exact⟨x,by simpa using hx,h⟩
def tab(L:Nat->Bool) :PT AVal->List (ADraw×AVal)->PT AVal
 | t,[]=>t
 | t,(e,v)::l=>tab L (match L e.idx with | true=>tput t e.o.dst v | false=>t) l
theorem z66(L:Nat->Bool) :∀ (t:PT AVal) (l:List (ADraw×AVal)) (e:ADraw) (v:AVal),tab L t (l++[(e,v)])=(match L e.idx with | true=>tput (tab L t l) e.o.dst v | false=>tab L t l)
 | t,[],e,v=>by simp only[List.nil_append,tab]
 | t,(e',v')::l,e,v=>by simp only[List.cons_append,tab];exact z66 L _ l e v
theorem j08{L L':Nat->Bool} :∀ {l:List (ADraw×AVal)} {t:PT AVal},(∀ x∈l,L x.1.idx=L' x.1.idx)->tab L t l=tab L' t l
 | [],_,_=>rfl
 | (e,v)::l,t,h=>by
  simp only[tab]
  rw[h (e,v) (by simp)]
  exact j08 fun x hx=>h x (List.mem_cons_of_mem _ hx)
theorem z7k{t:PT AVal}{d:Option Pos}{v:AVal}{p:Pos}(h:d≠some p) :PT.get p (tput t d v)=PT.get p t:=by
 cases d with
 | none=>rfl
 | some q=>exact PT.get_set_other _ _ _ _ (fun e=>h (by rw[e]))
theorem z39{t:PT AVal}{v:AVal}{p:Pos} :PT.get p (tput t (some p) v)=some v:=PT.get_set_same _ _ _
theorem z5m{L L':Nat->Bool}{p:Pos} :∀ {l:List (ADraw×AVal)} {t t':PT AVal},PT.get p t=PT.get p t'->(∀ x∈l,x.1.o.dst=some p->L x.1.idx=L' x.1.idx)->PT.get p (tab L t l)=PT.get p (tab L' t' l)
 | [],_,_,h,_=>h
 | (e,v)::l,t,t',h,hl=>by
  simp only[tab]
  refine z5m ?_ fun x hx=>hl x (List.mem_cons_of_mem _ hx)
  by_cases hd:e.o.dst=some p
  .rw[<-hl (e,v) (by simp) hd,hd]
   cases L e.idx
   .exact h
   .rw[z39,z39]
  .cases L e.idx<;>cases L' e.idx<;>simp only[z7k hd]<;>exact h
theorem z6h{L:Nat->Bool}{p:Pos}{l:List (ADraw×AVal)}{t:PT AVal}(h:∀ x∈l,x.1.o.dst=some p->L x.1.idx=false) :PT.get p (tab L t l)=PT.get p t:=by
 have:PT.get p (tab L t l)=PT.get p (tab (fun _=>false) t l):=z5m rfl h
 rw[this]
 clear this h
 induction l generalizing t with
 | nil=>rfl
 | cons x l ih=>simp only[tab];exact ih
theorem z4v{L:Nat->Bool}{p:Pos}{e:ADraw}{v:AVal} :∀ {l:List (ADraw×AVal)} {t:PT AVal},(e,v)∈l->e.o.dst=some p->L e.idx=true->(∀ x∈l,x.1.o.dst=some p->x=(e,v))->PT.get p (tab L t l)=some v
 | [],_,h,_,_,_=>by cases h
 | x::l,t,h,hd,hL,hu=>by
  by_cases hin:(e,v)∈l
  .obtain⟨x1,x2⟩:=x
   simp only[tab]
   exact z4v hin hd hL fun y hy=>hu y (List.mem_cons_of_mem _ hy)
  .rcases List.mem_cons.1 h with rfl | h
   .simp only[tab,hL,hd]
    rw[z6h]
    .exact z39
    .intro y hy hyd
     have:=hu y (List.mem_cons_of_mem _ hy) hyd
     rw[this]at hy
     exact absurd hy hin
   .exact absurd h hin
structure Ord (T:Tys) (nt:Nat) (ops:List Oper) (D S:List ADraw) :Prop where
 ok:∀ e∈D,DOk T nt ops e
 uniq:∀ e∈D,∀ f∈D,e.idx=f.idx->e=f
 sub:∀ e∈S,e∈D
 each:∀ l1 e l2,S=l1++e::l2->EOk D l1 e
 all:∀ i,i<ops.length->∃ x∈S,x.idx=i
theorem j8h{T:Tys}{nt:Nat}{ops:List Oper}{S:List ADraw}(h:j0w T nt ops=some S) :∃ D,Ord T nt ops D S:=by
 unfold j0w at h
 split at h
 .rename_i D hD
  simp only at h
  split at h
  .rename_i hok
   cases h
   obtain⟨g1,g2⟩:=j0f hD (fun j=>by simp)
   obtain⟨k1,k2⟩:=j3e (done:=[]) (fun x hx=>(g1 x hx).1.bit) hok (fun x hx=>z9a x hx) (by simp) (by simp)
   exact⟨D,⟨fun e he=>(g1 e he).1,g2,fun e he=>z9a e he,fun l1 e l2 hl=>by simpa using k1 l1 e l2 hl,fun i hi=>by simpa using k2 i hi⟩⟩
  .cases h
 .cases h
section
variable{T:Tys}{nt:Nat}{ops:List Oper}{D S:List ADraw}
theorem Ord.ahead(hO:Ord T nt ops D S) :∀ (n:Nat) (l1:List ADraw) (e:ADraw) (l2:List ADraw),l1.length<=n->S=l1++e::l2->∀ i,e.ahead.testBit i=true->∃ x∈l1,x.idx=i:=by
 intro n
 induction n with
 | zero =>
  intro l1 e l2 hn hS i hi
  have hl:l1=[]:=List.length_eq_zero_iff.1 (by omega)
  subst hl
  have he:=hO.each _ _ _ hS
  rcases he.clo i hi with h | ⟨x,hx,h,_⟩
  .exact he.need i h
  .obtain⟨y,hy,_⟩:=he.need _ h;cases hy
 | succ n ih =>
  intro l1 e l2 hn hS i hi
  have he:=hO.each _ _ _ hS
  rcases he.clo i hi with h | ⟨x,hx,h,hxa⟩
  .exact he.need i h
  .obtain⟨y,hy,hyx⟩:=he.need _ h
   obtain⟨m1,m2,hm⟩:=List.append_of_mem hy
   have hyS:y∈S:=by rw[hS];exact List.mem_append_left _ hy
   have hxy:y=x:=hO.uniq y (hO.sub y hyS) x hx hyx
   rw[<-hxy]at hxa
   obtain⟨z,hz,hzi⟩:=ih m1 y (m2++e::l2) (by rw[hm]at hn;simp at hn;omega) (by rw[hS,hm];simp) i hxa
   exact⟨z,by rw[hm];exact List.mem_append_left _ hz,hzi⟩
theorem Ord.idx_ne(hO:Ord T nt ops D S){l1:List ADraw}{e:ADraw}{l2:List ADraw}(hS:S=l1++e::l2){x:ADraw}(hx:x∈l1) :x.idx≠e.idx:=(hO.each _ _ _ hS).new x hx
theorem Ord.uniqS(hO:Ord T nt ops D S){e f:ADraw}(he:e∈S)(hf:f∈S)(h:e.idx=f.idx) :e=f:=hO.uniq e (hO.sub e he) f (hO.sub f hf) h
theorem Ord.lt(hO:Ord T nt ops D S){e:ADraw}(he:e∈S) :e.idx<ops.length:=by
 obtain⟨o,h,_⟩:=(hO.ok e (hO.sub e he)).op
 rcases Nat.lt_or_ge e.idx ops.length with h' | h'
 .exact h'
 .rw[List.getElem?_eq_none h']at h;cases h
theorem Ord.agree(hO:Ord T nt ops D S){t0:PT AVal}{vals:List (ADraw×AVal)}{rest:List ADraw}(hS:S=vals.map (·.1)++rest){L:Nat->Bool}
  (hclo:∀ x∈S,L x.idx=true->∀ i,x.ahead.testBit i=true->L i=true) {l1:List (ADraw×AVal)} {e:ADraw} {l2':List ADraw} (he:S=l1.map (·.1)++e::l2') {tl:List (ADraw×AVal)} (hvals:vals=l1++tl)
  (heL:L e.idx=false) (hahead:∀ i,e.ahead.testBit i=true->L i=true) :∀ p∈e.o.tmps,PT.get p (tab (fun _=>true) t0 l1)=PT.get p (tab L t0 vals):=by
 intro p hp
 have hE:=hO.each _ _ _ he
 have heS:e∈S:=by rw[he];simp
 have inS:∀ x∈vals,x.1∈S:=fun x hx=>by rw[hS];exact List.mem_append_left _ (List.mem_map.2 ⟨x,hx,rfl⟩)
 have uniq:∀ x∈vals,∀ y∈vals,x.1.o.dst=some p->y.1.o.dst=some p->x.1.idx=y.1.idx:=by
  intro x hx y hy hxd hyd
  obtain⟨m1,m2,hm⟩:=List.append_of_mem (inS y hy)
  rcases(hO.each _ _ _ hm).dst x.1 (hO.sub _ (inS x hx))with h | h
  .exact h
  .exact absurd hyd (h p hxd)
 by_cases hex:∃ x∈l1,x.1.o.dst=some p
 .obtain⟨⟨x,v⟩,hx,hxd⟩:=hex
  have hxv:(x,v)∈vals:=by rw[hvals];exact List.mem_append_left _ hx
  have hxne:x.idx≠e.idx:=hE.new x (List.mem_map.2 ⟨_,hx,rfl⟩)
  have hxL:L x.idx=true:=by
   rcases hE.dep p hp x (hO.sub _ (inS _ hxv)) hxd with h | h | h
   .exact absurd h hxne
   .exact hahead _ h
   .exfalso
    obtain⟨m1,m2,hm⟩:=List.append_of_mem (List.mem_map.2 ⟨_,hx,rfl⟩ :x∈l1.map (·.1))
    obtain⟨z,hz,hzi⟩:=hO.ahead _ m1 x (m2++e::l2') lr (by rw[he,hm];simp) _ h
    exact hE.new z (by rw[hm];exact List.mem_append_left _ hz) hzi
  have nodup:∀ y∈vals,y.1.o.dst=some p->y=(x,v):=by
   intro y hy hyd
   have hi:=uniq y hy (x,v) hxv hyd hxd
   have h1:y.1=x:=hO.uniqS (inS y hy) (inS _ hxv) hi
   obtain⟨m1,m2,hm⟩:=List.append_of_mem hxv
   rw[hm]at hy
   have hSm:S=m1.map (·.1)++x::(m2.map (·.1)++rest):=by rw[hS,hm];simp
   rcases List.mem_append.1 hy with h | h
   .exact absurd hi (hO.idx_ne hSm (List.mem_map.2 ⟨_,h,rfl⟩))
   .rcases List.mem_cons.1 h with h | h
    .exact h
    .exfalso
     obtain⟨k1,k2,hk⟩:=List.append_of_mem h
     have hSk:S=(m1++(x,v)::k1).map (·.1)++y.1::(k2.map (·.1)++rest):=by rw[hS,hm,hk];simp
     exact hO.idx_ne hSk (x:=x) (by simp) hi.symm
  rw[z4v (L:=fun _=>true) hx hxd rfl (fun y hy hyd=>nodup y (by rw[hvals];exact List.mem_append_left _ hy) hyd),z4v hxv hxd hxL nodup]
 .have h1:PT.get p (tab (fun _=>true) t0 l1)=PT.get p t0:=z6h fun x hx hxd=>absurd ⟨x,hx,hxd⟩ hex
  rw[h1,z6h]
  intro x hx hxd
  cases hL:L x.1.idx with
  | false=>rfl
  | true =>
   exfalso
   rcases hE.dep p hp x.1 (hO.sub _ (inS x hx)) hxd with h | h | h
   .rw[h,heL]at hL;cases hL
   .obtain⟨z,hz,hzi⟩:=hO.ahead _ _ e l2' lr he _ h
    obtain⟨y,hy,rfl⟩:=List.mem_map.1 hz
    have hyS:=inS y (by rw[hvals];exact List.mem_append_left _ hy)
    have:y.1=x.1:=hO.uniqS hyS (inS x hx) hzi
    exact hex ⟨y,hy,by rw[this];exact hxd⟩
   .rw[hclo _ (inS x hx) hL _ h]at heL;cases heL
end
theorem z7c:∀ (l:List Edge) (i:Nat),(z94 l).testBit i=true↔∃ e∈l,Region.binds .any e=true/\e.on=i
 | [],i=>by simp[z94]
 | e::l,i=>by
  simp only[z94]
  split
  .rename_i h
   show(2^e.on ||| z94 l).testBit i=true↔_
   rw[Nat.testBit_or,Bool.or_eq_true,z1t,z7c l i]
   simp[h]
  .rename_i h
   rw[z7c l i]
   simp[h]
mutual
theorem z25:∀ {a b:AVal},same a b=true->a=b
 | .bool a,b,h=>by cases b<;>simp_all [same]
 | .int k n,b,h=>by
  cases b<;>simp only[same]at h<;>first
   | (cases h;done)
   | skip
  split at h
  .rename_i hk
   rw[j32]at h
   have:=z6r.1 hk
   simp at h
   rw[this,h]
  .cases h
 | .str s,b,h=>by
  cases b<;>simp only[same]at h<;>first
   | (cases h;done)
   | skip
  rename_i r
  have:∀ (s r:List Nat),z14 s r=true->s=r:=by
   intro s
   induction s with
   | nil=>intro r h;cases r<;>simp_all [z14]
   | cons x s ih =>
    intro r h
    cases r with
    | nil=>simp[z14]at h
    | cons y r =>
     simp only[z14]at h
     split at h
     .rename_i hx
      rw[Nat.eq_of_beq_eq_true hx,ih r h]
     .cases h
  rw[this s r h]
 | .pnil,b,h=>by cases b<;>simp_all [same]
 | .ptr p o,b,h=>by
  cases b<;>simp only[same]at h<;>first
   | (cases h;done)
   | skip
  rw[Bool.and_eq_true]at h
  rw[Pos.beq_eq.1 h.1,Nat.eq_of_beq_eq_true h.2]
 | .snil,b,h=>by cases b<;>simp_all [same]
 | .sl p o l c z,b,h=>by
  cases b<;>simp only[same]at h<;>first
   | (cases h;done)
   | skip
  simp only[Bool.and_eq_true]at h
  obtain⟨⟨⟨⟨h1,h2⟩,h3⟩,h4⟩,h5⟩:=h
  rw[Pos.beq_eq.1 h1,Nat.eq_of_beq_eq_true h2,Nat.eq_of_beq_eq_true h3,Nat.eq_of_beq_eq_true h4,Nat.eq_of_beq_eq_true h5]
 | .mnil,b,h=>by cases b<;>simp_all [same]
 | .map p,b,h=>by
  cases b<;>simp only[same]at h<;>first
   | (cases h;done)
   | skip
  rw[Pos.beq_eq.1 h]
 | .fnil,b,h=>by cases b<;>simp_all [same]
 | .func f a c,b,h=>by
  cases b<;>simp only[same]at h<;>first
   | (cases h;done)
   | skip
  simp only[Bool.and_eq_true]at h
  obtain⟨⟨h1,h2⟩,h3⟩:=h
  rw[Nat.eq_of_beq_eq_true h1,z8a h2,z8a h3]
 | .yld l,b,h=>by
  cases b<;>simp only[same]at h<;>first
   | (cases h;done)
   | skip
  rw[Pos.beq_eq.1 h]
 | .inil,b,h=>by cases b<;>simp_all [same]
 | .iface t v,b,h=>by
  cases b<;>simp only[same]at h<;>first
   | (cases h;done)
   | skip
  rw[Bool.and_eq_true]at h
  rw[Nat.eq_of_beq_eq_true h.1,z25 h.2]
 | .agg l,b,h=>by
  cases b<;>simp only[same]at h<;>first
   | (cases h;done)
   | skip
  rw[z8a h]
 | .tup l,b,h=>by
  cases b<;>simp only[same]at h<;>first
   | (cases h;done)
   | skip
  rw[z8a h]
 | .any,b,h=>by cases b<;>simp_all [same]
theorem z8a:∀ {a b:List AVal},z59 a b=true->a=b
 | [],b,h=>by cases b<;>simp_all [z59]
 | x::l,b,h=>by
  cases b with
  | nil=>simp[z59]at h
  | cons y m =>
   simp only[z59,Bool.and_eq_true]at h
   rw[z25 h.1,z8a h.2]
end
theorem j58{H:AHeap}{ahead:Nat} :∀ {seen seen':List Seen},z3u ahead H seen=some seen'->∀ s∈seen,Nat.beq (Nat.land ahead s.bit) 0=true->s∈seen'/\quiet s.t H s.op=some s.v
 | [],_,_,s,hs,_=>by cases hs
 | x::l,seen',h,s,hs,hb=>by
  simp only[z3u]at h
  split at h
  .rename_i hx
   split at h
   .rename_i v hv
    split at h
    .rename_i hsame
     split at h
     .rename_i l' hl'
      cases h
      rcases List.mem_cons.1 hs with rfl | hs
      .exact⟨by simp,by rw[hv,z25 hsame]⟩
      .obtain⟨g1,g2⟩:=j58 hl' s hs hb
       exact⟨List.mem_cons_of_mem _ g1,g2⟩
     .cases h
    .cases h
   .cases h
  .rename_i hx
   rcases List.mem_cons.1 hs with rfl | hs
   .rw[hb]at hx;cases hx
   .exact j58 h s hs hb
def z6c(t:PT AVal) :AOp->Option (List AVal×(Pos->AVal))
 | .alloc z=>some (z,fun b=>.ptr b 0)
 | .box x=>match z1w (x.ev t)with
  | some vs=>some (vs,fun b=>.ptr b 0)
  | none=>none
 | .buildSlice z len ps=>match z32 z t ps with
  | some l=>some (l,fun b=>.sl b 0 len len 0)
  | none=>none
 | .mkSlice z bytes l c=>match z3j (l.ev t),z3j (c.ev t)with
  | some l,some c=>match Nat.ble l c,Nat.ble (Nat.mul c bytes) 140737488355328,Nat.ble c 140737488355328 with
   | true,true,true=>some (repl z c,fun b=>.sl b 0 l c 0)
   | _,_,_=>none
  | _,_=>none
 | _=>none
theorem j9m{t t':PT AVal}{op:AOp}(h:z0x t t' op.tmps) :z6c t op=z6c t' op:=by
 cases op with
 | box x=>simp only[z6c,z0x.ev (x:=x) h]
 | buildSlice z len ps=>simp only[z6c,z0x.fill (ps:=ps) h]
 | mkSlice z b l c=>simp only[z6c,z0x.ev (x:=l) h.left,z0x.ev (x:=c) h.right]
 | _=>rfl
theorem y3m{t:PT AVal}{H H':AHeap}{op:AOp}{v:AVal}(hc:j50 op=1)(h:z01 t H op=some (v,H')) :∃ z vf,z6c t op=some (z,vf)/\v=vf H.nx/\H'=(H.new (.cells z false false)).2:=by
 cases op with
 | alloc z=>cases h;exact⟨_,_,rfl,rfl,rfl⟩
 | box x =>
  simp only[z01]at h
  simp only[z6c]
  split at h
  .rename_i vs hv
   cases h
   rw[hv]
   exact⟨_,_,rfl,rfl,rfl⟩
  .cases h
 | buildSlice z len ps =>
  simp only[z01]at h
  simp only[z6c]
  split at h
  .rename_i vs hv
   cases h
   rw[hv]
   exact⟨_,_,rfl,rfl,rfl⟩
  .cases h
 | mkSlice z b l c =>
  simp only[z01]at h
  simp only[z6c]
  split at h
  .rename_i l' c' hl hcc
   split at h
   .rename_i g1 g2 g3
    cases h
    rw[hl,hcc]
    simp only[g1,g2,g3]
    exact⟨_,_,rfl,rfl,rfl⟩
   .cases h
  .cases h
 | conv c x=>cases c<;>simp[j50,z0v]at hc
 | _=>simp[j50,z0v]at hc
section
variable{P:Program}{T:Tys}{B:Nat}{φ:Emb}{H:AHeap}{w:World}{nt:Nat}{t:PT AVal}{a:Act}
theorem q68(hT:TOk2 T P)(hH:HRel T B φ H w)(ht:TRel φ nt t a.tmps){o:Oper}{ao:AOp}(hc:z2r T o.op=some ao){z:List AVal}{vf:Pos->AVal}(h:z6c t ao=some (z,vf)) :
  j6d P φ w (execOp a.eval o) z vf/\∀ c,o.op≠.defer c:=by
 have hT1:=hT.toTOk
 generalize ho:o.op=op at hc
 unfold z2r at hc
 split at hc
 case _ =>
  split at hc
  .cases hc;simp[z6c]at h
  .cases hc
 all_goals first
  | ((repeat' split at hc)<;>(first | (cases hc;done) | (cases hc;simp[z6c]at h;done)))
  | skip
 ·
  split at hc
  .rename_i zz hz
   cases hc;cases h
   exact⟨j3s hT1 ho hz,by simp⟩
  .cases hc
 ·
  split at hc
  .rename_i ax hx
   cases hc
   simp only[z6c]at h
   split at h
   .rename_i vs hv
    cases h
    exact⟨y14 hH ht ho hx hv,by simp⟩
   .cases h
  .cases hc
 ·
  split at hc
  .rename_i e hu
   split at hc
   .rename_i s zz hs hz
    split at hc
    .rename_i aps hp hle
     cases hc
     simp only[z6c]at h
     split at h
     .rename_i l hl
      cases h
      exact⟨z6o hT hH ht ho hu hs hz hp (Nat.le_of_ble_eq_true hle) hl,by simp⟩
     .cases h
    .cases hc
   .cases hc
  .cases hc
 ·
  split at hc
  .rename_i e ax ay hu hx hy
   split at hc
   .rename_i i zz hi hz
    cases hc
    simp only[z6c]at h
    split at h
    .rename_i l c hl hcc
     split at h
     .rename_i g1 g2 g3
      cases h
      exact⟨z95 hT hH ht ho hx hy hu hi hz hl hcc (Nat.le_of_ble_eq_true g1) (Nat.le_of_ble_eq_true g2) (Nat.le_of_ble_eq_true g3),by simp⟩
     .cases h
    .cases h
   .cases hc
  .cases hc
 ·
  exfalso
  unfold z4b at hc
  (repeat' split at hc)<;>(first | (cases hc;done) | (cases hc;simp[z6c]at h;done))
end
def put1(L:Nat->Bool)(i:Nat) :Nat->Bool:=fun j=>L j || Nat.beq j i
theorem z6j(L:Nat->Bool)(i:Nat) :put1 L i i=true:=by simp[put1]
theorem z5s{L:Nat->Bool}{i j:Nat}(h:L j=true) :put1 L i j=true:=by simp[put1,h]
theorem j9b{L:Nat->Bool}{i j:Nat}(h:j≠i) :put1 L i j=L j:=by
 have:Nat.beq j i=false:=by
  cases hb:Nat.beq j i with
  | false=>rfl
  | true=>exact absurd (Nat.eq_of_beq_eq_true hb) h
 simp[put1,this]
theorem j0s{L:Nat->Bool}{i j:Nat}(h:put1 L i j=true) :L j=true\/j=i:=by
 simp only[put1,Bool.or_eq_true]at h
 rcases h with h | h
 .exact .inl h
 .exact .inr (Nat.eq_of_beq_eq_true h)
theorem z4g{L:Nat->Bool}{i j:Nat}(h:put1 L i j=false) :L j=false/\j≠i:=by
 constructor
 .cases hl:L j with
  | false=>rfl
  | true=>rw[z5s hl]at h;cases h
 .rintro rfl
  rw[z6j]at h;cases h
theorem TRel.ext{φ:Emb}{nt:Nat}{t t':PT AVal}{tmps:Array Value}(h:TRel φ nt t tmps)(he:∀ p,PT.get p t=PT.get p t') :TRel φ nt t' tmps :=
 ⟨h.1,h.2.1,fun i hi=>by
  have:=h.2.2 i hi
  unfold tget at this ⊢
  rw[<-he];exact this⟩
inductive Pend (φ:Emb) (H0 H:AHeap) (seen:List Seen) (b:Option Pos) (te:PT AVal) (e:ADraw) (v:AVal) :Prop where
 | off (h:z0y te e.o.guard=some false) (hv:v=.undef)
 | look (h:z0y te e.o.guard=some true) (hc:e.cls=0) (hq:quiet te H e.o.op=some v) (hs:(⟨te,e.o.op,v,e.bit⟩ :Seen)∈seen)
 | make (h:z0y te e.o.guard=some true) (hc:e.cls=1) (z:List AVal) (vf:Pos->AVal) (p:Pos) (hb:b=some p) (hm:z6c te e.o.op=some (z,vf)) (hv:v=vf p) (hp:φ p=none) (hg:PT.get p H.t=some (.cells z false false)) (h0:H0.nx.toNat<=p.toNat)
section
variable(P:Program)(T:Tys)(B:Nat)(nt:Nat)(S:List ADraw)(t0:PT AVal)(ds:List ADef)(φ0:Emb)(H0:AHeap)(w0:World)
structure Inv (vals:List (ADraw×AVal)) (H:AHeap) (seen:List Seen) (blk:Nat->Option Pos) (L:Nat->Bool) (φ:Emb) (a:Act) (w:World) :Prop where
 clo:∀ x∈S,L x.idx=true->∀ i,x.ahead.testBit i=true->L i=true
 sub:∀ i,L i=true->∃ x∈vals,x.1.idx=i
 loud:∀ x∈vals,x.1.cls=2->L x.1.idx=true
 sim:Sim T B φ0 H0 w0 φ H w
 act:ActRel φ nt ⟨tab L t0 vals,ds⟩ a
 pend:∀ l1 e v l2,vals=l1++(e,v)::l2->L e.idx=false->Pend φ H0 H seen (blk e.idx) (tab (fun _=>true) t0 l1) e v
 inj:∀ i j p,i≠j->L i=false->L j=false->blk i=some p->blk j≠some p
 low:∀ j p,blk j=some p->p.toNat<H.nx.toNat
end
section
variable{P:Program}{T:Tys}{B:Nat}{nt:Nat}{ops:Array Oper}{D S:List ADraw}{t0:PT AVal}{ds:List ADef}{φ0:Emb}{H0:AHeap}{w0:World}
 {vals:List (ADraw×AVal)} {H:AHeap} {seen:List Seen} {blk:Nat->Option Pos} {L:Nat->Bool} {φ:Emb} {a:Act} {w:World} {E:Env} {rec:Rec}
theorem z7u(hO:Ord T nt ops.toList D S)(hI:Inv T B nt S t0 ds φ0 H0 w0 vals H seen blk L φ a w){e:ADraw}(he:e∈S)(hL:∀ i,e.need.testBit i=true->L i=true) :∀ i,e.ahead.testBit i=true->L i=true:=by
 intro i hi
 obtain⟨l1,l2,hS⟩:=List.append_of_mem he
 rcases(hO.each _ _ _ hS).clo i hi with h | ⟨x,hx,h,hxi⟩
 .exact hL i h
 .obtain⟨y,hy,hyx⟩:=(hO.each _ _ _ hS).need _ h
  have hyS:y∈S:=by rw[hS];exact List.mem_append_left _ hy
  have:y=x:=hO.uniq y (hO.sub y hyS) x hx hyx
  subst this
  exact hI.clo y hyS (hL _ h) i hxi
theorem q50(hO:Ord T nt ops.toList D S){rest:List ADraw}(hS:S=vals.map (·.1)++rest){l1:List (ADraw×AVal)}{e:ADraw}{v:AVal}{l2:List (ADraw×AVal)}(hv:vals=l1++(e,v)::l2)(_hL:L e.idx=false) :
  ∀ p,PT.get p (tput (tab L t0 vals) e.o.dst v)=PT.get p (tab (put1 L e.idx) t0 vals):=by
 intro p
 have hevals:(e,v)∈vals:=by rw[hv];simp
 have inS:∀ x∈vals,x.1∈S:=fun x hx=>by rw[hS];exact List.mem_append_left _ (List.mem_map.2 ⟨x,hx,rfl⟩)
 have one:∀ x∈vals,x.1.idx=e.idx->x=(e,v):=by
  intro x hx hxe
  have hSe:S=l1.map (·.1)++e::(l2.map (·.1)++rest):=by rw[hS,hv];simp
  rw[hv]at hx
  rcases List.mem_append.1 hx with h | h
  .exact absurd hxe (hO.idx_ne hSe (List.mem_map.2 ⟨_,h,rfl⟩))
  .rcases List.mem_cons.1 h with h | h
   .exact h
   .exfalso
    obtain⟨k1,k2,hk⟩:=List.append_of_mem h
    have hSk:S=(l1++(e,v)::k1).map (·.1)++x.1::(k2.map (·.1)++rest):=by rw[hS,hv,hk];simp
    exact hO.idx_ne hSk (x:=e) (by simp) hxe.symm
 by_cases hd:e.o.dst=some p
 .rw[hd,z39]
  symm
  refine z4v hevals hd (z6j _ _) fun x hx hxd=>?_
  apply one x hx
  obtain⟨m1,m2,hm⟩:=List.append_of_mem (inS _ hevals)
  rcases(hO.each _ _ _ hm).dst x.1 (hO.sub _ (inS x hx))with h | h
  .exact h
  .exact absurd hd (h p hxd)
 .rw[z7k hd]
  refine z5m rfl fun x hx hxd=>?_
  rw[j9b]
  intro hxe
  have:=one x hx hxe
  rw[this]at hxd
  exact hd hxd
theorem Sim.lay(hS:Sim T B φ0 H0 w0 φ H w){p:Pos}{k:Nat}{w':World}(hp:φ p=none)(h0:H0.nx.toNat<=p.toNat)(hr:HRel T B (φ.put p ⟨w.heap.size,0,k⟩) H w')(hb:Below B w w') :Sim T B φ0 H0 w0 (φ.put p ⟨w.heap.size,0,k⟩) H w':=by
 have hle:=Emb.le_put (φ:=φ) (p:=p) ⟨w.heap.size,0,k⟩ hp
 refine⟨⟨Emb.le_trans hS.ext.le hle,fun q hq hn=>?_,hS.ext.nx⟩,hr,hS.below.trans hb⟩
 obtain⟨h1,h2⟩:=hS.ext.old q hq hn
 have:q≠p:=fun e=>by rw[e]at hq;omega
 exact⟨by rw[Emb.put_other _ _ this];exact h1,h2⟩
theorem y7h(hT:TOk2 T P)(hO:Ord T nt ops.toList D S)(hI:Inv T B nt S t0 ds φ0 H0 w0 vals H seen blk L φ a w){rest:List ADraw}(hS:S=vals.map (·.1)++rest)
  {e:ADraw} {v:AVal} {l1 l2:List (ADraw×AVal)} (hv:vals=l1++(e,v)::l2) (hL:L e.idx=false) (hneed:∀ i,e.need.testBit i=true->L i=true)
  {r:Option Nat} {Q:Exit->Act->World->Prop} {K:Act->World->Prop} (hK:∀ φ' a' w',Inv T B nt S t0 ds φ0 H0 w0 vals H seen blk (put1 L e.idx) φ' a' w'->K a' w') :
  wpOpIn (FR r) 0 P ops Q e.idx K a w:=by
 have hSe:S=l1.map (·.1)++e::(l2.map (·.1)++rest):=by rw[hS,hv];simp
 have heS:e∈S:=by rw[hSe];simp
 have hD:=hO.ok e (hO.sub e heS)
 obtain⟨o,ho,hco,hno⟩:=hD.op
 have ho':ops[e.idx]? = some o:=by simpa using ho
 obtain⟨hg,hd,hop⟩:=z40 hco
 have hah:=z7u hO hI heS hneed
 have hagree:=hO.agree hS hI.clo hSe hv hL hah (t0:=t0)
 have hag1:z0x (tab (fun _=>true) t0 l1) (tab L t0 vals) e.o.op.tmps:=fun p hp=>by
  have:=hagree p (List.mem_append_left _ hp)
  unfold tget;rw[this]
 have hag2:z0y (tab (fun _=>true) t0 l1) e.o.guard=z0y (tab L t0 vals) e.o.guard:=z78 fun p hp=>hagree p (List.mem_append_right _ hp)
 have hput:=q50 (t0:=t0) hO hS hv hL
 have next:∀ {φ':Emb} {w':World} {u:Value},Sim T B φ0 H0 w0 φ' H w'->φ.le φ'->VRel φ' v u->(∀ p,φ p=none->blk e.idx≠some p->φ' p=none)->K (a.put o.dst u) w':=by
  intro φ' w' u hsim hle hvu hkeep
  refine hK φ' _ w' ⟨?_,?_,?_,hsim,?_,?_,?_,hI.low⟩
  .intro x hx hxL i hi
   rcases j0s hxL with h | h
   .exact z5s (hI.clo x hx h i hi)
   .have:x=e:=hO.uniqS hx heS h
    subst this
    exact z5s (hah i hi)
  .intro i hi
   rcases j0s hi with h | h
   .exact hI.sub i h
   .exact⟨(e,v),by rw[hv];simp,h.symm⟩
  .intro x hx hc
   exact z5s (hI.loud x hx hc)
  .have h1:=(hI.act.mono hle).put hd hvu
   exact⟨h1.t.ext hput,h1.ds⟩
  .intro m1 e' v' m2 hm hL'
   obtain⟨h1,h2⟩:=z4g hL'
   have hp:=hI.pend m1 e' v' m2 hm h1
   cases hp with
   | off h hv=>exact .off h hv
   | look h hc hq hs=>exact .look h hc hq hs
   | make h hc z vf p hb hm hv hp hg h0=>exact .make h hc z vf p hb hm hv (hkeep p hp (hI.inj _ _ p h2 h1 hL hb)) hg h0
  .intro i j p hij hi hj hb
   exact hI.inj i j p hij (z4g hi).1 (z4g hj).1 hb
 unfold wpOpIn
 rw[ho']
 simp only
 have hpe:=hI.pend l1 e v l2 hv hL
 cases hpe with
 | off h hv0 =>
  rw[hag2]at h
  rw[z3x hI.act.t hg h,if_neg (by simp)]
  subst hv0
  exact⟨fun f _=>j22 r f,next hI.sim (Emb.le_refl _) VRel.undef (fun p hp _=>hp)⟩
 | look h hc hq hs =>
  rw[hag2]at h
  rw[j1n hag1]at hq
  rw[z3x hI.act.t hg h,if_pos rfl]
  rcases hop with hop | hop
  .obtain⟨u,hu,hvu⟩:=j4u hT hI.sim.rel hI.act.t hop hq
   have hnd:∀ c,o.op≠.defer c:=by
    intro c hd
    rw[hd]at hop
    simp only[z2r]at hop
    split at hop
    .split at hop
     .have he:=Option.some.inj hop
      rw[<-he]at hq;simp[quiet]at hq
     .cases hop
    .cases hop
   refine⟨fun f _=>j22 r f,?_⟩
   rw[Oper.semAt_eq _ _ _ hnd,hu]
   exact next hI.sim (Emb.le_refl _) hvu (fun p hp _=>hp)
  .rw[hop]at hq;simp[quiet]at hq
 | make h hc z vf p hb hm hv0 hp hgp h0 =>
  rw[hag2]at h
  rw[j9m hag1]at hm
  rw[z3x hI.act.t hg h,if_pos rfl]
  rcases hop with hop | hop
  .obtain⟨hmk,hnd⟩:=q68 hT hI.sim.rel hI.act.t hop hm
   obtain⟨u,w',k,g1,g2,g3,g4⟩:=hmk.lays hI.sim.rel hp hgp
   refine⟨fun f _=>j22 r f,?_⟩
   rw[Oper.semAt_eq _ _ _ hnd,g1]
   refine next (Sim.lay hI.sim hp h0 g3 g4) (Emb.le_put _ hp) (by rw[hv0];exact g2) (fun q hq hne=>?_)
   have:q≠p:=fun e'=>hne (by rw[hb,e'])
   rw[Emb.put_other _ _ this];exact hq
  .rw[hop]at hm;simp[z6c]at hm
end
end Go.Am
