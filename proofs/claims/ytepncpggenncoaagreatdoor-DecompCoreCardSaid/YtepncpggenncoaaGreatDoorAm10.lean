import Derived.Test.YtepncpggenncoaaGreatDoorAm9
import Derived.Test.YtepncpggenncoaaGreatDoorAm2
set_option linter.unusedSimpArgs false
set_option linter.unusedVariables false
set_option maxHeartbeats 8000000
section
namespace Go.Am
open Go Go.RowKit
def unl(listed:Array Bool) :Nat:=listed.toList.count false
theorem j8g:∀ (l:List Bool) (i:Nat),l[i]? = some false->(l.set i true).count false+1=l.count false
 | [],i,h=>by simp at h
 | b::l,0,h=>by
  simp at h
  subst h
  simp
 | b::l,i+1,h=>by
  have:=j8g l i (by simpa using h)
  cases b<;>simp<;>omega
theorem j8w{listed:Array Bool}{i:Nat}(h:listed.getD i true=false) :unl (listed.setIfInBounds i true)+1=unl listed:=by
 unfold unl
 rw[Array.toList_setIfInBounds]
 apply j8g
 rw[Array.getD_eq_getD_getElem?]at h
 rw[Array.getElem?_toList]
 cases hc:listed[i]? with
 | none=>rw[hc]at h;cases h
 | some b=>rw[hc]at h;simp at h;rw[h]
theorem z9j{listed:Array Bool}{i:Nat}(h:listed.getD i true=false) :listed.getD i false=false/\i<listed.size:=by
 rw[Array.getD_eq_getD_getElem?]at h ⊢
 cases hc:listed[i]? with
 | none=>rw[hc]at h;cases h
 | some b =>
  rw[hc]at h
  simp at h
  rcases Nat.lt_or_ge i listed.size with h' | h'
  .exact⟨by simp[h],h'⟩
  .rw[Array.getElem?_eq_none h']at hc;cases hc
theorem j4p{listed:Array Bool}{i:Nat}(h:i<listed.size) :(fun j=>(listed.setIfInBounds i true).getD j false)=put1 (fun j=>listed.getD j false) i:=by
 funext j
 by_cases e:j=i
 .subst e
  rw[z6j]
  simp[Array.getD_eq_getD_getElem?,h]
 .rw[j9b e]
  simp only[Array.getD_eq_getD_getElem?]
  rw[Array.getElem?_setIfInBounds_ne (fun h=>e h.symm)]
section
variable{P:Program}{T:Tys}{B:Nat}{nt:Nat}{ops:Array Oper}{D S:List ADraw}{t0:PT AVal}{ds:List ADef}{φ0:Emb}{H0:AHeap}{w0:World}
 {vals:List (ADraw×AVal)} {H:AHeap} {seen:List Seen} {blk:Nat->Option Pos} {L:Nat->Bool} {φ:Emb} {a:Act} {w:World} {E:Env} {rec:Rec}
theorem z7v(hO:Ord T nt ops.toList D S){listed:Array Bool}{e:ADraw}(he:e∈S)(hr:e.idx∈Region.ready .any ops listed) :∀ i,e.need.testBit i=true->listed.getD i false=true:=by
 intro i hi
 obtain⟨h1,o,ho,hall⟩:=mem_ready.1 hr
 obtain⟨o',ho',_,hn⟩:=(hO.ok e (hO.sub e he)).op
 have:o'=o:=by
  have h2:ops[e.idx]? = some o':=by simpa using ho'
  rw[ho]at h2;exact(Option.some.inj h2).symm
 subst this
 rw[hn,z7c]at hi
 obtain⟨ed,hed,hb,rfl⟩:=hi
 exact hall ed (by simpa using hed) hb
theorem j4g(hO:Ord T nt ops.toList D S){listed:Array Bool}(hsz:listed.size=ops.size)(hr:Region.ready .any ops listed=[]) :∀ i,i<ops.size->listed.getD i false=true:=by
 have step:∀ l1 e l2,S=l1++e::l2->(∀ x∈l1,listed.getD x.idx false=true)->listed.getD e.idx false=true:=by
  intro l1 e l2 hS hl
  cases hc:listed.getD e.idx false with
  | true=>rfl
  | false =>
   exfalso
   have heS:e∈S:=by rw[hS];simp
   have hlt:e.idx<listed.size:=by rw[hsz];simpa using hO.lt heS
   obtain⟨o,ho,_,hn⟩:=(hO.ok e (hO.sub e heS)).op
   have:e.idx∈Region.ready .any ops listed:=by
    refine mem_ready.2 ⟨?_,o,by simpa using ho,fun ed hed hb=>?_⟩
    .rw[Array.getD_eq_getD_getElem?]at hc ⊢
     rw[Array.getElem?_eq_getElem hlt]at hc ⊢
     simpa using hc
    .obtain⟨x,hx,hxi⟩:=(hO.each _ _ _ hS).need ed.on (by rw[hn,z7c];exact⟨ed,by simpa using hed,hb,rfl⟩)
     rw[<-hxi];exact hl x hx
   rw[hr]at this;cases this
 have all:∀ k l2,∀ l1:List ADraw,l1.length=k->S=l1++l2->∀ x∈l1,listed.getD x.idx false=true:=by
  intro k
  induction k with
  | zero=>intro l2 l1 h _ x hx;rw[List.length_eq_zero_iff.1 h]at hx;cases hx
  | succ k ih =>
   intro l2 l1 h hS x hx
   rcases List.eq_nil_or_concat l1 with rfl | ⟨l1',y,rfl⟩
   .cases hx
   .have hlen:l1'.length=k:=by simp at h;omega
    have hS':S=l1'++y::l2:=by rw[hS];simp
    have hprev:=ih (y::l2) l1' hlen hS'
    rw[List.concat_eq_append]at hx
    rcases List.mem_append.1 hx with hx | hx
    .exact hprev x hx
    .simp at hx;subst hx;exact step l1' x l2 hS' hprev
 intro i hi
 obtain⟨x,hx,rfl⟩:=hO.all i (by simpa using hi)
 exact all S.length [] S rfl (by simp) x hx
theorem q7g(hT:TOk2 T P)(hO:Ord T nt ops.toList D S){rest:List ADraw}(hS:S=vals.map (·.1)++rest){r:Option Nat}{Q:Exit->Act->World->Prop}
  (hdone:∀ L φ a w,Inv T B nt S t0 ds φ0 H0 w0 vals H seen blk L φ a w->(∀ i,i<ops.size->L i=true)->Q .normal a w)
  (hloud:∀ (i fuel:Nat) (listed:Array Bool) φ a w,(¬ ∃ x∈vals,x.1.idx=i)->listed.size=ops.size->Inv T B nt S t0 ds φ0 H0 w0 vals H seen blk (fun j=>listed.getD j false) φ a w->i∈Region.ready .any ops listed->unl listed<=fuel+1 →
   wpOpIn (FR r) 0 P ops Q i (wpAnyIn (FR r) 0 P .any ops Q fuel (listed.setIfInBounds i true)) a w) :
  ∀ (fuel:Nat) (listed:Array Bool) (φ:Emb) (a:Act) (w:World),listed.size=ops.size->Inv T B nt S t0 ds φ0 H0 w0 vals H seen blk (fun j=>listed.getD j false) φ a w->unl listed<=fuel->wpAnyIn (FR r) 0 P .any ops Q fuel listed a w
 | 0,listed,φ,a,w,hsz,hI,hu=>by
  have hr:Region.ready .any ops listed=[]:=by
   cases hc:Region.ready .any ops listed with
   | nil=>rfl
   | cons i l =>
    have:=(mem_ready.1 (by rw[hc];simp:i∈Region.ready .any ops listed)).1
    have:=j8w this
    omega
  exact⟨hr,hdone _ φ a w hI (j4g hO hsz hr)⟩
 | fuel+1,listed,φ,a,w,hsz,hI,hu=>by
  refine⟨fun hr=>hdone _ φ a w hI (j4g hO hsz hr),fun i hi=>?_⟩
  have hun:=(mem_ready.1 hi).1
  obtain⟨hL,hlt⟩:=z9j hun
  by_cases hin:∃ x∈vals,x.1.idx=i
  .obtain⟨⟨e,v⟩,hx,rfl⟩:=hin
   obtain⟨l1,l2,hv⟩:=List.append_of_mem hx
   have heS:e∈S:=by rw[hS];exact List.mem_append_left _ (List.mem_map.2 ⟨_,hx,rfl⟩)
   refine y7h hT hO hI hS hv hL (z7v hO heS hi) fun φ' a' w' hI'=>?_
   refine q7g hT hO hS hdone hloud fuel _ φ' a' w' (by simpa using hsz) ?_ (by have:=j8w hun;omega)
   rw[j4p hlt]
   exact hI'
  .exact hloud i fuel listed φ a w hin hsz hI hi hu
theorem j4d{α:Type}{l l1 l2:List α}{x y:α}(h:l++[x]=l1++y::l2) :(l=l1/\x=y/\l2=[])\/∃ l2',l=l1++y::l2':=by
 rcases List.eq_nil_or_concat l2 with rfl | ⟨m,z,rfl⟩
 .have:=List.append_inj' h rfl
  exact .inl ⟨this.1,by simpa using this.2,rfl⟩
 .right
  rw[List.concat_eq_append]at h
  have h':l++[x]=(l1++y::m)++[z]:=by rw[h];simp
  exact⟨m,(List.append_inj' h' rfl).1⟩
theorem j5e(hO:Ord T nt ops.toList D S){d:ADraw}{l:List ADraw}(hS:S=vals.map (·.1)++d::l)(hI:Inv T B nt S t0 ds φ0 H0 w0 vals H seen blk L φ a w)(hcls:d.cls≠2){H1:AHeap}{seen1:List Seen}{blk1:Nat->Option Pos}{v:AVal}
  (hsim:Sim T B φ0 H0 w0 φ H1 w) (hle:HLe H H1) (hseen:∀ s∈seen,s∈seen1) (hblk:∀ j,j≠d.idx->blk1 j=blk j) (hlow:∀ j p,blk1 j=some p->p.toNat<H1.nx.toNat) (hinj:∀ p,blk1 d.idx=some p->∀ j,j≠d.idx->blk j≠some p)
  (hpend:Pend φ H0 H1 seen1 (blk1 d.idx) (tab (fun _=>true) t0 vals) d v) :Inv T B nt S t0 ds φ0 H0 w0 (vals++[(d,v)]) H1 seen1 blk1 L φ a w:=by
 have hE:=hO.each _ _ _ hS
 have hLd:L d.idx=false:=by
  cases hc:L d.idx with
  | false=>rfl
  | true =>
   obtain⟨x,hx,hxi⟩:=hI.sub _ hc
   exact absurd hxi (hE.new x.1 (List.mem_map.2 ⟨x,hx,rfl⟩))
 refine⟨hI.clo,fun i hi=>?_,fun x hx hc=>?_,hsim,?_,fun l1 e v' l2 hv hL=>?_,fun i j p hij hi hj hb=>?_,hlow⟩
 .obtain⟨x,hx,h⟩:=hI.sub i hi
  exact⟨x,List.mem_append_left _ hx,h⟩
 .rcases List.mem_append.1 hx with hx | hx
  .exact hI.loud x hx hc
  .simp at hx;subst hx;exact absurd hc hcls
 .rw[z66,hLd];exact hI.act
 .rcases j4d hv with⟨rfl,he,_⟩ | ⟨l2',hv'⟩
  .cases he;exact hpend
  .have hne:e.idx≠d.idx:=hE.new e (List.mem_map.2 ⟨(e,v'),by rw[hv'];simp,rfl⟩)
   have hp:=hI.pend l1 e v' l2' hv' hL
   rw[hblk _ hne]
   cases hp with
   | off h hv=>exact .off h hv
   | look h hc hq hs=>exact .look h hc (y37 hle hq) (hseen _ hs)
   | make h hc z vf p hb hm hv hp hg h0=>exact .make h hc z vf p hb hm hv hp (hle _ _ hg) h0
 .by_cases h1:i=d.idx
  .subst h1
   rw[hblk j (fun e=>hij e.symm)]
   exact hinj p hb j (fun e=>hij e.symm)
  .by_cases h2:j=d.idx
   .subst h2
    intro hb'
    rw[hblk i h1]at hb
    exact hinj p hb' i h1 hb
   .rw[hblk j h2];rw[hblk i h1]at hb
    exact hI.inj i j p hij hi hj hb
theorem y2p(hO:Ord T nt ops.toList D S){d:ADraw}{l:List ADraw}(hS:S=vals.map (·.1)++d::l)(hI:Inv T B nt S t0 ds φ0 H0 w0 vals H seen blk L φ a w)(hah:∀ i,d.ahead.testBit i=true->L i=true){H1:AHeap}{seen1:List Seen}{v:AVal}{u:Value}{φ':Emb}{w':World}{o:Oper}
  (hd:j79 nt o.dst=some d.o.dst) (hsim:Sim T B φ H w φ' H1 w') (hv:VRel φ' v u) (hkeep:∀ te e v',L e.idx=false->e∈S->Pend φ H0 H seen (blk e.idx) te e v'->Pend φ' H0 H1 seen1 (blk e.idx) te e v') :
  Inv T B nt S t0 ds φ0 H0 w0 (vals++[(d,v)]) H1 seen1 blk (put1 L d.idx) φ' (a.put o.dst u) w':=by
 have hE:=hO.each _ _ _ hS
 have hdS:d∈S:=by rw[hS];simp
 refine⟨fun x hx hxL i hi=>?_,fun i hi=>?_,fun x hx hc=>?_,hI.sim.trans hsim,?_,fun l1 e v' l2 hv' hL=>?_,fun i j p hij hi hj hb=>?_,fun j p hb=>?_⟩
 .rcases j0s hxL with h | h
  .exact z5s (hI.clo x hx h i hi)
  .have:x=d:=hO.uniqS hx hdS h
   subst this
   exact z5s (hah i hi)
 .rcases j0s hi with h | h
  .obtain⟨x,hx,h⟩:=hI.sub i h
   exact⟨x,List.mem_append_left _ hx,h⟩
  .exact⟨(d,v),by simp,h.symm⟩
 .rcases List.mem_append.1 hx with hx | hx
  .exact z5s (hI.loud x hx hc)
  .simp at hx;subst hx;exact z6j _ _
 .rw[z66,z6j]
  have:tab (put1 L d.idx) t0 vals=tab L t0 vals:=j08 fun x hx=>j9b (hE.new x.1 (List.mem_map.2 ⟨x,hx,rfl⟩))
  rw[this]
  exact(hI.act.mono hsim.ext.le).put hd hv
 .obtain⟨h1,h2⟩:=z4g hL
  rcases j4d hv' with⟨_,he,_⟩ | ⟨l2',hv''⟩
  .cases he;exact absurd rfl h2
  .exact hkeep _ e v' h1 (by rw[hS];exact List.mem_append_left _ (List.mem_map.2 ⟨(e,v'),by rw[hv''];simp,rfl⟩)) (hI.pend l1 e v' l2' hv'' h1)
 .exact hI.inj i j p hij (z4g hi).1 (z4g hj).1 hb
 .exact Nat.lt_of_lt_of_le (hI.low j p hb) hsim.ext.nx
end
section
variable{P:Program}{T:Tys}{B:Nat}{nt:Nat}{ops:Array Oper}{D S:List ADraw}{t0:PT AVal}{ds:List ADef}{φ0:Emb}{H0:AHeap}{w0:World}{E:Env}{rec:Rec}
theorem HLe.refl(H:AHeap) :HLe H H:=fun _ _ h=>h
theorem HLe.new{T:Tys}{B:Nat}{φ:Emb}{H:AHeap}{w:World}(hH:HRel T B φ H w)(o:AObj) :HLe H (H.new o).2:=by
 intro p x hp
 have:H.nx≠p:=fun e=>by rw[<-e,hH.fresh_get]at hp;cases hp
 simp only[AHeap.new]
 rw[PT.get_set_other _ _ _ _ this]
 exact hp
theorem q2y(ao:AOp) :j50 ao=0\/j50 ao=1\/j50 ao=2:=by
 unfold j50
 split
 .exact .inr (.inl rfl)
 .exact .inr (.inl rfl)
 .exact .inr (.inl rfl)
 .exact .inr (.inl rfl)
 .split
  .exact .inl rfl
  .exact .inr (.inr rfl)
theorem z5j(hT:TOk2 T P)(hE:EnvOk P T B E)(hrec:z1p P T B rec)(hO:Ord T nt ops.toList D S){r:Option Nat}{e:AExit}{aa':AAct}{H':AHeap} :
  ∀ (rest:List ADraw) (vals:List (ADraw×AVal)) (H:AHeap) (seen:List Seen) (blk:Nat->Option Pos),S=vals.map (·.1)++rest->z3t E rec ds rest (tab (fun _=>true) t0 vals) H seen=some (e,aa',H') →
   ∀ (fuel:Nat) (listed:Array Bool) (φ:Emb) (a:Act) (w:World),listed.size=ops.size->Inv T B nt S t0 ds φ0 H0 w0 vals H seen blk (fun j=>listed.getD j false) φ a w->unl listed<=fuel →
   wpAnyIn (FR r) 0 P .any ops (Post T B φ0 H0 w0 nt e aa' H') fuel listed a w
 | [],vals,H,seen,blk,hS,h=>by
  simp only[z3t]at h
  cases h
  refine q7g hT hO hS (fun L φ a w hI hall=>?_) (fun i fuel listed φ a w hni hsz hI hi hu=>?_)
  .refine⟨rfl,φ,hI.sim,?_⟩
   have:tab L t0 vals=tab (fun _=>true) t0 vals:=j08 fun x hx=>by
    have hxS:x.1∈S:=by rw[hS];exact List.mem_append_left _ (List.mem_map.2 ⟨x,hx,rfl⟩)
    exact hall _ (by simpa using hO.lt hxS)
   rw[<-this]
   exact hI.act
  .exfalso
   obtain⟨_,hlt⟩:=z9j (mem_ready.1 hi).1
   obtain⟨x,hx,hxi⟩:=hO.all i (by rw[hsz]at hlt;simpa using hlt)
   rw[hS,List.append_nil]at hx
   obtain⟨y,hy,rfl⟩:=List.mem_map.1 hx
   exact hni ⟨y,hy,hxi⟩
 | d::l,vals,H,seen,blk,hS,h=>by
  have hEd:=hO.each _ _ _ hS
  have hdS:d∈S:=by rw[hS];simp
  have hD:=hO.ok d (hO.sub d hdS)
  have hS':∀ v:AVal,S=(vals++[(d,v)]).map (·.1)++l:=fun v=>by rw[hS];simp
  have htab:∀ v:AVal,tput (tab (fun _=>true) t0 vals) d.o.dst v=tab (fun _=>true) t0 (vals++[(d,v)]):=fun v=>by rw[z66]
  have hcls:=q2y d.o.op
  rw[<-hD.cls]at hcls
  by_cases hc2:d.cls=2
  ·
   refine q7g hT hO hS (fun L φ a w hI hall=>?_) (fun i fuel listed φ a w hni hsz hI hi hu=>?_)
   .exfalso
    obtain⟨x,hx,hxi⟩:=hI.sub d.idx (hall _ (by simpa using hO.lt hdS))
    exact hEd.new x.1 (List.mem_map.2 ⟨x,hx,rfl⟩) hxi
   .have hun:=(mem_ready.1 hi).1
    obtain⟨hL,hlt⟩:=z9j hun
    have hid:i=d.idx:=by
     obtain⟨x,hx,hxi⟩:=hO.all i (by rw[hsz]at hlt;simpa using hlt)
     have hxS:=hx
     rw[hS]at hx
     rcases List.mem_append.1 hx with hx | hx
     .obtain⟨y,hy,rfl⟩:=List.mem_map.1 hx
      exact absurd ⟨y,hy,hxi⟩ hni
     .rcases List.mem_cons.1 hx with rfl | hx
      .exact hxi.symm
      .exfalso
       obtain⟨m1,m2,hm⟩:=List.append_of_mem hx
       have hSx:S=(vals.map (·.1)++d::m1)++x::m2:=by rw[hS,hm];simp
       have:=(hO.each _ _ _ hSx).loud d (by simp) hc2
       have hdL:=z7u hO hI hxS (z7v hO hxS (by rw[hxi];exact hi)) _ this
       obtain⟨y,hy,hyi⟩:=hI.sub _ hdL
       exact hEd.new y.1 (List.mem_map.2 ⟨y,hy,rfl⟩) hyi
    subst hid
    have hah:=z7u hO hI hdS (z7v hO hdS hi)
    have hagree:=hO.agree (t0:=t0) hS hI.clo (l1:=vals) (tl:=[]) hS (by simp) hL hah
    have hag1:z0x (tab (fun _=>true) t0 vals) (tab (fun j=>listed.getD j false) t0 vals) d.o.op.tmps:=fun p hp=>by
     have:=hagree p (List.mem_append_left _ hp)
     unfold tget;rw[this]
    have hag2:z0y (tab (fun _=>true) t0 vals) d.o.guard=z0y (tab (fun j=>listed.getD j false) t0 vals) d.o.guard:=z78 fun p hp=>hagree p (List.mem_append_right _ hp)
    obtain⟨o,ho,hco,hno⟩:=hD.op
    have ho':ops[d.idx]? = some o:=by simpa using ho
    obtain⟨hg,hd,hop⟩:=z40 hco
    have hsz':(listed.setIfInBounds d.idx true).size=ops.size:=by simpa using hsz
    have hu':unl (listed.setIfInBounds d.idx true)<=fuel:=by have:=j8w hun;omega
    simp only[z3t]at h
    unfold wpOpIn
    rw[ho']
    simp only
    split at h
    .rename_i hw
     rw[hag2]at hw
     rw[z3x hI.act.t hg hw,if_pos rfl]
     rw[hc2]at h
     simp only at h
     split at h
     .rename_i v H1 hex
      split at h
      .rename_i seen1 hseen
       rw[z3l,htab]at h
       rw[j91 hag1]at hex
       rcases hop with hop | hop
       .refine j90 hT hE hrec hI.sim.rel hI.act.t hop hex fun u w' φ' hv hsim=>?_
        refine z5j hT hE hrec hO l (vals++[(d,v)]) H1 seen1 blk (hS' v) h fuel _ φ' _ w' hsz' ?_ hu'
        rw[j4p hlt]
        refine y2p hO hS hI hah hd hsim hv fun te e' v' hLe heS hp=>?_
        cases hp with
        | off h hv=>exact .off h hv
        | look h hc hq hs =>
         have hz:Nat.beq (Nat.land d.ahead e'.bit) 0=true:=by
          rw[(hO.ok e' (hO.sub e' heS)).bit,z96]
          cases hb:d.ahead.testBit e'.idx with
          | false=>rfl
          | true=>rw[hah _ hb]at hLe;cases hLe
         obtain⟨g1,g2⟩:=j58 hseen _ hs hz
         exact .look h hc g2 g1
        | make h hc z vf p hb hm hv hp hg h0 =>
         obtain⟨g1,g2⟩:=hsim.ext.old p (hI.low _ _ hb) hp
         exact .make h hc z vf p hb hm hv g1 (by rw[g2];exact hg) h0
       .rw[hop]at hex;simp[z1o,z01,quiet]at hex
      .cases h
     .cases h
    .rename_i hw
     rw[hag2]at hw
     rw[z3x hI.act.t hg hw,if_neg (by simp)]
     rw[htab]at h
     refine⟨fun f _=>j22 r f,?_⟩
     refine z5j hT hE hrec hO l (vals++[(d,.undef)]) H seen blk (hS' _) h fuel _ φ _ w hsz' ?_ hu'
     rw[j4p hlt]
     exact y2p hO hS hI hah hd (Sim.refl hI.sim.rel) VRel.undef fun te e' v' hLe heS hp=>hp
    .cases h
  ·
   intro fuel listed φ a w hsz hI hu
   have hLd:(fun j=>listed.getD j false) d.idx=false:=by
    cases hc:(fun j=>listed.getD j false) d.idx with
    | false=>rfl
    | true =>
     obtain⟨x,hx,hxi⟩:=hI.sub _ hc
     exact absurd hxi (hEd.new x.1 (List.mem_map.2 ⟨x,hx,rfl⟩))
   let blk0:Nat->Option Pos:=fun j=>match Nat.beq j d.idx with | true=>none | false=>blk j
   have blk0_ne:∀ j,j≠d.idx->blk0 j=blk j:=by
    intro j hj
    have:Nat.beq j d.idx=false:=by
     cases hb:Nat.beq j d.idx with
     | false=>rfl
     | true=>exact absurd (Nat.eq_of_beq_eq_true hb) hj
    simp[blk0,this]
   have blk0_same:blk0 d.idx=none:=by simp[blk0]
   have low0:∀ j p,blk0 j=some p->p.toNat<H.nx.toNat:=by
    intro j p hb
    by_cases hj:j=d.idx
    .rw[hj,blk0_same]at hb;cases hb
    .rw[blk0_ne j hj]at hb;exact hI.low j p hb
   simp only[z3t]at h
   split at h
   .rename_i hw
    rcases hcls with hc | hc | hc
    .rw[hc]at h
     simp only at h
     split at h
     .rename_i v hq
      rw[z3l,htab]at h
      refine z5j hT hE hrec hO l (vals++[(d,v)]) H _ blk0 (hS' v) h fuel listed φ a w hsz ?_ hu
      exact j5e hO hS hI hc2 hI.sim (HLe.refl H) (fun s hs=>List.mem_cons_of_mem _ hs) blk0_ne low0 (fun p hp=>by rw[blk0_same]at hp;cases hp) (.look hw hc hq (by simp))
     .cases h
    .rw[hc]at h
     simp only at h
     split at h
     .rename_i v H1 hwr
      rw[htab]at h
      obtain⟨z,vf,hm,hv,hH1⟩:=y3m (by rw[<-hD.cls];exact hc) hwr
      subst hH1
      let blk1:Nat->Option Pos:=fun j=>match Nat.beq j d.idx with | true=>some H.nx | false=>blk j
      have blk1_ne:∀ j,j≠d.idx->blk1 j=blk j:=by
       intro j hj
       have:Nat.beq j d.idx=false:=by
        cases hb:Nat.beq j d.idx with
        | false=>rfl
        | true=>exact absurd (Nat.eq_of_beq_eq_true hb) hj
       simp[blk1,this]
      have blk1_same:blk1 d.idx=some H.nx:=by simp[blk1]
      have hHr:=hI.sim.rel
      refine z5j hT hE hrec hO l (vals++[(d,v)]) _ seen blk1 (hS' v) h fuel listed φ a w hsz ?_ hu
      refine j5e hO hS hI hc2 (hI.sim.trans ⟨Ext.ghost φ H _,hHr.ghost _,Below.refl _ _⟩) (HLe.new hHr _) (fun s hs=>hs) blk1_ne (fun j p hb=>?_) (fun p hp j hj hb=>?_) (.make hw hc z vf H.nx blk1_same hm hv hHr.fresh (AHeap.get_new H _) hI.sim.ext.nx)
      .simp only[AHeap.new,Pos.toNat_succ]
       by_cases hj:j=d.idx
       .rw[hj,blk1_same]at hb
        cases hb;omega
       .rw[blk1_ne j hj]at hb
        have:=hI.low j p hb
        omega
      .rw[blk1_same]at hp
       cases hp
       exact absurd (hI.low j _ hb) (Nat.lt_irrefl _)
     .cases h
    .exact absurd hc hc2
   .rename_i hw
    rw[htab]at h
    refine z5j hT hE hrec hO l (vals++[(d,.undef)]) H seen blk0 (hS' _) h fuel listed φ a w hsz ?_ hu
    exact j5e hO hS hI hc2 hI.sim (HLe.refl H) (fun s hs=>hs) blk0_ne low0 (fun p hp=>by rw[blk0_same]at hp;cases hp) (.off hw rfl)
   .cases h
theorem j4j(n:Nat) :unl (Array.replicate n false)=n:=by
 unfold unl
 simp
theorem y4r(hT:TOk2 T P)(hE:EnvOk P T B E)(hm:P.follows .mixedOrders=true) :∀ rec,z1p P T B rec->j8t P T B E rec:=by
 intro rec hrec ops id nt r S φ H w aa a e aa' H' hS hH hact h
 obtain⟨D,hO⟩:=j8h hS
 refine wpIn_region_any hm ?_
 have hS0:Sim T B φ H w φ H { w with drawn:=w.drawn+1 }:=⟨Ext.refl _ _,hH.drawn rfl,(Below.refl B w).drew⟩
 have hL:(fun j=>(Array.replicate ops.size false).getD j false)=fun _=>false:=by
  funext j
  rw[Array.getD_eq_getD_getElem?,Array.getElem?_replicate]
  split<;>rfl
 refine z5j (t0:=aa.t) (ds:=aa.ds) (φ0:=φ) (H0:=H) (w0:=w) hT hE hrec hO S [] H [] (fun _=>none) (by simp) h ops.size (Array.replicate ops.size false) φ a _ (by simp) ?_ (by rw[j4j];exact lr)
 rw[hL]
 exact⟨fun x _ h=>(by cases h),fun i h=>(by cases h),fun x hx=>(by cases hx),hS0,hact,fun l1 e v l2 h=>(by simp at h),fun i j p _ _ _ h=>(by cases h),fun j p h=>(by cases h)⟩
theorem q89(hT:TOk2 T P)(hE:EnvOk P T B E)(hm:P.follows .mixedOrders=true)(n:Nat) :z1p P T B (ev E n):=(k1e hT hE (y4r hT hE hm) n).1
theorem j4r(hT:TOk2 T P)(hE:EnvOk P T B E)(hm:P.follows .mixedOrders=true){n:Nat}{φ:Emb}{H:AHeap}{w:World}(hH:HRel T B φ H w){f:FuncId}{args:List AVal}{vs:Array Value}(hl:LRel φ args vs.toList){v:AVal}{H':AHeap}(h:callF E (ev E n) f args H=some (v,H')) :
  z4r P T B φ H w f vs v H':=j53 hT.toTOk hE (q89 hT hE hm n) hH hl h
end
end Go.Am
end
section
namespace Go.Am
theorem j9t{α:Type}(t:PT α)(p:Pos) :getF t p=PT.get p t:=by
 induction t generalizing p with
 | l=>cases p<;>rfl
 | n a v b iha ihb=>cases p with
  | h=>rfl
  | o p=>exact iha p
  | i p=>exact ihb p
theorem y6h{α:Type}(t:PT α)(p:Pos)(x:Option α) :setF t p x=PT.set p x t:=by
 induction t generalizing p with
 | l=>cases p<;>rfl
 | n a v b iha ihb=>cases p with
  | h=>rfl
  | o p=>show PT.n (setF a p x) v b=_;rw[iha p];rfl
  | i p=>show PT.n a v (setF b p x)=_;rw[ihb p];rfl
theorem z4z(x:AOpnd)(t:PT AVal) :evO x t=x.ev t:=by
 cases x with
 | t p =>
  show y7n (getF t p)=tget t p
  rw[j9t]
  unfold tget
  cases PT.get p t<;>rfl
 | c v=>rfl
theorem j2f(n:Nat)(k:Nat->KR) :fNat n k=k n:=by cases n<;>rfl
theorem q7v(n:Int)(k:Int->KR) :fInt n k=k n:=by
 cases n with
 | ofNat m=>show fNat m _=_;rw[j2f]
 | negSucc m=>show fNat m _=_;rw[j2f]
theorem j9r(q:IntKind)(n:Int)(k:KV)(h:AHeap) :kInt q n k h=k (.int q n) h:=q7v _ _
def goQ(r:Option AVal)(k:KV)(h:AHeap) :KR:=match r with | some v=>k v h | none=>none
def goR(r:ARes)(k:KV) :KR:=match r with | some (v,h)=>k v h | none=>none
theorem j7r(r:Option AVal)(k:KV)(h:AHeap) :kOV r k h=goQ r k h:=by
 cases r with
 | none=>rfl
 | some v=>show z5i v (fun v=>k v h)=k v h;rw[z3l]
theorem j11(r:ARes)(k:KV) :kRes r k=goR r k:=by
 cases r with
 | none=>rfl
 | some p=>obtain⟨v,h⟩:=p;show z5i v (fun v=>k v h)=k v h;rw[z3l]
theorem z9n(b:Bool)(k:KV)(h:AHeap) :cmpR b k h=k (.bool b) h:=by cases b<;>rfl
theorem q7f(op:BinOp)(q:IntKind)(x y:Int)(k:KV)(h:AHeap) :intF op q x y k h=goQ (z6s op q x y) k h:=by
 have rest:∀ op,j2x op q x y k h=goQ (z6s op q x y) k h:=fun op=>j7r _ _ _
 cases op with
 | mul=>exact rest .mul
 | quo=>exact rest .quo
 | rem=>exact rest .rem
 | and=>exact rest .and
 | or=>exact rest .or
 | xor=>exact rest .xor
 | shl=>exact rest .shl
 | shr=>exact rest .shr
 | andNot=>exact rest .andNot
 | add=>exact j9r _ _ _ _
 | sub=>exact j9r _ _ _ _
 | eql=>exact z9n _ _ _
 | neq=>exact z9n _ _ _
 | lss=>exact z9n _ _ _
 | leq=>exact z9n _ _ _
 | gtr=>exact z9n _ _ _
 | geq=>exact z9n _ _ _
theorem q8b(op:BinOp)(vx vy:AVal)(k:KV)(h:AHeap) :binF op vx vy k h=goQ (z0l op vx vy) k h:=by
 unfold binF
 cases hs:y8m op with
 | true=>exact j7r _ _ _
 | false =>
  show y7q vx _ _=_
  cases vx with
  | int q x =>
   show bin2 op (.int q x) vy k h q x=_
   unfold bin2
   cases vy with
   | int q' y =>
    show ifB (kbeq q q') _ _=_
    have hb:z0l op (.int q x) (.int q' y)=match kbeq q q' with | true=>z6s op q x y | false=>none:=by
     cases op<;>first
      | rfl
      | cases hs
    rw[hb]
    cases kbeq q q' with
    | true=>exact q7f op q x y k h
    | false=>rfl
   | _=>cases op<;>first | rfl | cases hs
  | _=>exact j7r _ _ _
theorem y73(l:List AVal)(o:Nat)(y:AVal) :lput l o [y]=lset l o y:=by
 induction l generalizing o with
 | nil=>cases o<;>rfl
 | cons a l ih=>cases o with
  | zero=>cases l<;>rfl
  | succ o=>simp only[lput,lset,ih o]
theorem y4k(y:AVal)(h:y8n y=true) :z1w y=some [y]/\z1g y=true:=by
 cases y<;>first | exact⟨rfl,rfl⟩ | cases h
theorem j7j(v:AVal)(f:Bool->KR)(d:KR) :y1x v f d=(match v with | .bool b=>f b | _=>d):=by cases v<;>rfl
theorem z8g(v:AVal)(f:Pos->Nat->KR)(d:KR) :y4f v f d=(match v with | .ptr b o=>f b o | _=>d):=by cases v<;>rfl
theorem y7p(v:AVal)(f:Pos->Nat->Nat->Nat->Nat->KR)(d:KR) :onSl v f d=(match v with | .sl b o l c z=>f b o l c z | _=>d):=by cases v<;>rfl
theorem q1i(v:AVal)(f:IntKind->Int->KR)(d:KR) :y7q v f d=(match v with | .int k n=>f k n | _=>d):=by cases v<;>rfl
theorem j3y(b:Bool)(x y:KR) :ifB b x y=(match b with | true=>x | false=>y):=by cases b<;>rfl
theorem j2r{t:PT AVal}{h:AHeap}{op:AOp}{k:KV}(hq:z0v op=true) :goR (z01 t h op) k=goQ (quiet t h op) k h:=by
 have go:∀ q:Option AVal,goR (match q with | some v=>some (v,h) | none=>none:ARes) k=goQ q k h:=by
  intro q;cases q<;>rfl
 have hw:z01 t h op=(match quiet t h op with | some v=>some (v,h) | none=>none):=by
  cases op with
  | conv c x=>cases c<;>first | rfl | (simp[z0v]at hq;done)
  | _=>first | rfl | (simp[z0v]at hq;done)
 rw[hw]
 exact go _
theorem z1c(op:AOp)(t:PT AVal)(h:AHeap)(k:KV) :z3h op t h k=goR (z01 t h op) k:=j11 _ _
theorem q03(c a b:AOpnd)(t:PT AVal)(h:AHeap)(k:KV) :q6l c a b t h k=goQ (quiet t h (.pick c a b)) k h:=by
 simp only[q6l,quiet,j7j,z4z]
 cases c.ev t<;>first | rfl | skip
 rename_i z
 cases z<;>rfl
theorem y7a(x:AOpnd)(t:PT AVal)(h:AHeap)(k:KV) :y7b x t h k=goQ (quiet t h (.load1 x)) k h:=by
 simp only[y7b,quiet,z8g,z4z]
 cases x.ev t<;>first | rfl | skip
 rename_i b o
 simp only[y69,z04,j9t]
 cases PT.get b h.t with
 | none=>rfl
 | some ob =>
  cases ob with
  | cells l op ro =>
   show k0d (lget l o) _ none=_
   simp only
   cases lget l o<;>rfl
  | _=>rfl
theorem j42(off:Nat)(x:AOpnd)(t:PT AVal)(h:AHeap)(k:KV) :z88 off x t h k=goQ (quiet t h (.fieldAddr off x)) k h:=by
 simp only[z88,quiet,z8g,z4z]
 cases x.ev t<;>first | rfl | skip
 exact j2f _ _
theorem q6r(op:BinOp)(x y:AOpnd)(t:PT AVal)(h:AHeap)(k:KV) :qBin op x y t h k=goQ (quiet t h (.bin op x y)) k h:=by
 simp only[qBin,quiet,z4z]
 exact q8b _ _ _ _ _
theorem q6m(x:AOpnd)(t:PT AVal)(h:AHeap)(k:KV) :qNil x t h k=goQ (quiet t h (.nilCheck x)) k h:=by
 simp only[qNil,z8g,z4z,j7r,quiet]
 cases x.ev t<;>rfl
theorem q04(sz:Nat)(x i:AOpnd)(t:PT AVal)(h:AHeap)(k:KV) :q6p sz x i t h k=goQ (quiet t h (.idxS sz x i)) k h:=by
 simp only[q6p,quiet,y7p,z4z]
 cases x.ev t<;>first | rfl | skip
 rename_i b o len cap s
 simp only[q4b]
 cases z3j (i.ev t)with
 | none=>rfl
 | some n =>
  show ifB (Nat.blt n len) (fNat _ _) none=_
  rw[j2f,j3y]
  simp only
  cases Nat.blt n len<;>rfl
theorem q05(len sz:Nat)(x i:AOpnd)(t:PT AVal)(h:AHeap)(k:KV) :q6q len sz x i t h k=goQ (quiet t h (.idxA len sz x i)) k h:=by
 simp only[q6q,quiet,z8g,z4z]
 cases x.ev t<;>first | rfl | skip
 rename_i b o
 simp only[q4c]
 cases z3j (i.ev t)with
 | none=>rfl
 | some n =>
  show ifB (Nat.blt n len) (fNat _ _) none=_
  rw[j2f,j3y]
  simp only
  cases Nat.blt n len<;>rfl
theorem q6o(n:Nat)(x:AOpnd)(t:PT AVal)(h:AHeap)(k:KV) :qLen n x t h k=goQ (quiet t h (.len n x)) k h:=by
 simp only[qLen,j3y,y7p,z4z,j7r]
 split
 .rename_i hn
  have:=Nat.eq_of_beq_eq_true hn
  subst this
  simp only[quiet]
  cases x.ev t<;>rfl
 .rfl
theorem y7c(q:IntKind)(x:AOpnd)(t:PT AVal)(h:AHeap)(k:KV) :y7d q x t h k=goQ (quiet t h (.conv (.toInt q) x)) k h:=by
 simp only[y7d,quiet,q1i,z4z,j9r]
 cases x.ev t<;>rfl
theorem y65(n:Nat)(x y:AOpnd)(t:PT AVal)(h:AHeap)(k:KV) :y68 n x y t h k=goR (z01 t h (.store n x y)) k:=by
 simp only[y68,j3y,j11]
 split
 .rename_i hn
  have:=Nat.eq_of_beq_eq_true hn
  subst this
  simp only[y67,j3y,j11,z8g,z4z]
  split
  .rename_i hs
   obtain⟨h1,h2⟩:=y4k _ hs
   simp only[z01,h1]
   cases x.ev t<;>first | rfl | skip
   rename_i b o
   simp only[List.length_singleton]
   show _=goR (match z05 h b o [y.ev t]with | some h'=>some (.undef,h') | none=>none) k
   simp only[y66,z05,j9t,z1l,h2,y73]
   cases PT.get b h.t with
   | none=>rfl
   | some ob =>
    cases ob with
    | cells l op ro =>
     cases ro with
     | true=>rfl
     | false =>
      show q4j (lset l o (y.ev t)) _ none=_
      simp only
      cases lset l o (y.ev t)with
      | none=>rfl
      | some l' =>
       show k .undef ⟨setF h.t b _,h.nx⟩=_
       rw[y6h]
       rfl
    | _=>rfl
  .rfl
 .rfl
theorem j9a(d:Option Pos)(v:AVal)(t:PT AVal) :putD d v t=tput t d v:=by
 cases d with
 | none=>rfl
 | some p=>exact y6h t p (some v)
theorem y9g(l:List AOpnd)(t:PT AVal) :evsF l t=evs t l:=by
 induction l with
 | nil=>rfl
 | cons x l ih=>show evO x t::evsF l t=_;rw[z4z,ih];rfl
def q87(E:Env)(rec:Rec)(op:AOp)(d:Option Pos)(next:LF)(ds:List ADef)(t:PT AVal)(h:AHeap) :KR :=
 match op with
 | .defer f args=>match f.ev t with
  | .func g first caps=>next (.fn g (first++(evs t args++caps))::ds) (tput t d .undef) h
  | _=>none
 | op=>goR (z1o E rec t h op) fun v h'=>next ds (tput t d v) h'
theorem j0x(d:Option Pos)(next:LF)(ds:List ADef)(t:PT AVal) :j0h d next ds t=fun v h=>next ds (tput t d v) h:=by
 funext v h
 show next ds (putD d v t) h=_
 rw[j9a]
theorem z37{E:Env}{rec:Rec}{q:QF}{op:AOp}{d:Option Pos}{next:LF}{ds:List ADef}{t:PT AVal}{h:AHeap}(hq:∀ k,q t h k=goQ (quiet t h op) k h)(hi:z0v op=true)(he:z1o E rec t h op=z01 t h op) :
  xQ q E rec d next ds t h=goR (z1o E rec t h op) fun v h'=>next ds (tput t d v) h':=by
 show q t h (j0h d next ds t)=_
 rw[j0x,hq,he,j2r hi]
theorem z1b{E:Env}{rec:Rec}{q:QF}{op:AOp}{d:Option Pos}{next:LF}{ds:List ADef}{t:PT AVal}{h:AHeap}(hq:∀ k,q t h k=goR (z01 t h op) k)(he:z1o E rec t h op=z01 t h op) :
  xQ q E rec d next ds t h=goR (z1o E rec t h op) fun v h'=>next ds (tput t d v) h':=by
 show q t h (j0h d next ds t)=_
 rw[j0x,hq,he]
theorem y2z(E:Env)(rec:Rec)(op:AOp)(d:Option Pos)(next:LF)(ds:List ADef)(t:PT AVal)(h:AHeap) :y4q op E rec d next ds t h=q87 E rec op d next ds t h:=by
 cases op with
 | move x =>
  show next ds (putD d (evO x t) t) h=_
  rw[j9a,z4z]
  rfl
 | pick c a b=>exact z37 (q03 c a b t h) rfl rfl
 | load1 x=>exact z37 (y7a x t h) rfl rfl
 | nilCheck x=>exact z37 (q6m x t h) rfl rfl
 | bin op x y=>exact z37 (q6r op x y t h) rfl rfl
 | fieldAddr o x=>exact z37 (j42 o x t h) rfl rfl
 | idxS sz x i=>exact z37 (q04 sz x i t h) rfl rfl
 | idxA n sz x i=>exact z37 (q05 n sz x i t h) rfl rfl
 | len n x=>exact z37 (q6o n x t h) rfl rfl
 | store n x y=>exact z1b (y65 n x y t h) rfl
 | conv c x=>cases c with
  | toInt k=>exact z37 (y7c k x t h) rfl rfl
  | strBytes=>exact z1b (E:=E) (rec:=rec) (z1c _ t h) rfl
  | bytesStr=>exact z1b (E:=E) (rec:=rec) (z1c _ t h) rfl
  | same=>exact z1b (E:=E) (rec:=rec) (z1c _ t h) rfl
  | mark=>exact z1b (E:=E) (rec:=rec) (z1c _ t h) rfl
 | callF f l =>
  show kRes (z9p E rec f (evsF l t) h) (j0h d next ds t)=_
  rw[j11,j0x,y9g]
  rfl
 | callV f l =>
  show kRes (z47 E rec (evO f t) (evsF l t) h) (j0h d next ds t)=_
  rw[j11,j0x,y9g,z4z]
  rfl
 | defer f args=>rfl
 | bad=>rfl
 | alloc z=>exact z1b (E:=E) (rec:=rec) (z1c _ t h) rfl
 | box x=>exact z1b (E:=E) (rec:=rec) (z1c _ t h) rfl
 | build z ps=>exact z1b (E:=E) (rec:=rec) (z1c _ t h) rfl
 | buildSlice z l ps=>exact z1b (E:=E) (rec:=rec) (z1c _ t h) rfl
 | loadN n x=>exact z1b (E:=E) (rec:=rec) (z1c _ t h) rfl
 | eq g n x y=>exact z1b (E:=E) (rec:=rec) (z1c _ t h) rfl
 | un op x=>exact z1b (E:=E) (rec:=rec) (z1c _ t h) rfl
 | field1 o x=>exact z1b (E:=E) (rec:=rec) (z1c _ t h) rfl
 | fieldN o n x=>exact z1b (E:=E) (rec:=rec) (z1c _ t h) rfl
 | idxStr x i=>exact z1b (E:=E) (rec:=rec) (z1c _ t h) rfl
 | idxArr n x i=>exact z1b (E:=E) (rec:=rec) (z1c _ t h) rfl
 | slice k x l h' m=>exact z1b (E:=E) (rec:=rec) (z1c _ t h) rfl
 | s2ap n x=>exact z1b (E:=E) (rec:=rec) (z1c _ t h) rfl
 | mkI ty x=>exact z1b (E:=E) (rec:=rec) (z1c _ t h) rfl
 | mkF f a b=>exact z1b (E:=E) (rec:=rec) (z1c _ t h) rfl
 | mkMap=>exact z1b (E:=E) (rec:=rec) (z1c _ t h) rfl
 | mkSlice z b l c=>exact z1b (E:=E) (rec:=rec) (z1c _ t h) rfl
 | lookup q z x k ok=>exact z1b (E:=E) (rec:=rec) (z1c _ t h) rfl
 | mapUpdate q m k v=>exact z1b (E:=E) (rec:=rec) (z1c _ t h) rfl
 | extract x i=>exact z1b (E:=E) (rec:=rec) (z1c _ t h) rfl
 | append a b s x=>exact z1b (E:=E) (rec:=rec) (z1c _ t h) rfl
 | copy s d' x=>exact z1b (E:=E) (rec:=rec) (z1c _ t h) rfl
 | mm m xs=>exact z1b (E:=E) (rec:=rec) (z1c _ t h) rfl
 | clear z x=>exact z1b (E:=E) (rec:=rec) (z1c _ t h) rfl
theorem j9h(E:Env)(rec:Rec) :∀ (l:List AOper) (ds:List ADef) (t:PT AVal) (h:AHeap),opsF E rec l ds t h=opsA E rec ds l t h
 | [],ds,t,h=>rfl
 | ⟨d,op,g⟩::l,ds,t,h=>by
  have ih:opsF E rec l=fun ds t h=>opsA E rec ds l t h:=by
   funext ds t h;exact j9h E rec l ds t h
  have hone:q87 E rec op d (opsF E rec l) ds t h=(match op with
   | .defer f args=>match f.ev t with
    | .func g first caps=>opsA E rec (.fn g (first++(evs t args++caps))::ds) l (tput t d .undef) h
    | _=>none
   | op=>match z1o E rec t h op with
    | some (v,h')=>z5i v fun v=>opsA E rec ds l (tput t d v) h'
    | none=>none):=by
   rw[ih]
   have go:∀ r:ARes,goR r (fun v h'=>opsA E rec ds l (tput t d v) h')=(match r with | some (v,h')=>z5i v fun v=>opsA E rec ds l (tput t d v) h' | none=>none):=by
    intro r
    cases r with
    | none=>rfl
    | some p =>
     obtain⟨v,h'⟩:=p
     show opsA E rec ds l (tput t d v) h'=z5i v fun v=>opsA E rec ds l (tput t d v) h'
     rw[z3l]
   cases op<;>first
    | rfl
    | exact go (z1o E rec t h _)
    | exact(z3l _ (fun v=>opsA E rec ds l (tput t d v) h)).symm
  show q99 E rec (opsF E rec l) ds t h d op g=_
  simp only[opsA]
  cases g with
  | none =>
   show y4q op E rec d (opsF E rec l) ds t h=_
   rw[y2z,hone]
   rfl
  | some g =>
   show @Option.rec Bool (fun _=>KR) none (fun b=>ifB b (y4q op E rec d (opsF E rec l) ds t h) (opsF E rec l ds (putD d .undef t) h)) (z0y t (some g))=_
   cases hw:z0y t (some g)with
   | none=>rfl
   | some b =>
    cases b with
    | true =>
     show y4q op E rec d (opsF E rec l) ds t h=_
     rw[y2z,hone]
     rfl
    | false =>
     show opsF E rec l ds (putD d .undef t) h=_
     rw[j9a,j9h E rec l]
theorem y6i(r:KR)(next:AAct->AHeap->KR) :seqF r next=(match r with | some (.normal,a,h)=>next a h | r=>r):=by
 cases r with
 | none=>rfl
 | some p =>
  obtain⟨e,a,h⟩:=p
  cases e<;>rfl
theorem q5a(E:Env) :∀ n,evF E n=ev E n
 | 0=>by
  funext c ro a h
  rfl
 | n+1=>by
  have ih:=q5a E n
  funext c ro a h
  show k1u c n E (evF E n) ro a h=_
  rw[ih]
  cases c with
  | skip=>rfl
  | label l=>rfl
  | exit id=>rfl
  | ret=>rfl
  | goto l=>rfl
  | bad=>rfl
  | draw ops=>rfl
  | scope b=>rfl
  | rangeFunc f ps x y=>rfl
  | region ops =>
   obtain⟨t,ds⟩:=a
   exact j9h E (ev E n) ops ds t h
  | seq x y=>exact y6i _ _
  | loop b=>exact y6i _ _
  | cond x c1 c2 =>
   obtain⟨t,ds⟩:=a
   show y1x (evO x t) _ none=_
   rw[j7j,z4z]
   simp only[ev]
   cases x.ev t with
   | bool b=>cases b<;>rfl
   | _=>rfl
  | block id b =>
   show onKR (ev E n b ro a h) (q5m id) none=_
   simp only[ev]
   cases ev E n b ro a h with
   | none=>rfl
   | some p =>
    obtain⟨e,a',h'⟩:=p
    cases e with
    | exit id' =>
     show ifB (Nat.beq id id') _ _=_
     rw[j3y]
     rfl
    | _=>rfl
end Go.Am
end
section
namespace Go.Am
open Go Go.RowKit
theorem j05{t:Nat}(ht:t<2^31) :∀ (l:List TypeInfo) (n:Nat) (tr:PT TypeInfo),n+l.length<=2^31 →
  PT.get (Pos.ofNat t) (y3p l n tr)=if n<=t/\t<n+l.length then l[t-n]? else PT.get (Pos.ofNat t) tr
 | [],n,tr,_=>by
  rw[if_neg (by simp only[List.length_nil];omega)];rfl
 | i::l,n,tr,h=>by
  simp only[List.length_cons]at h
  simp only[y3p]
  rw[j05 ht l (n+1) _ (by omega)]
  simp only[List.length_cons]
  by_cases h1:n+1<=t/\t<n+1+l.length
  .rw[if_pos h1,if_pos (by omega)]
   obtain⟨k,hk⟩ :∃ k,t-n=k+1:=⟨t-n-1,by omega⟩
   rw[hk,List.getElem?_cons_succ]
   congr 1
   omega
  .rw[if_neg h1]
   by_cases h2:t=n
   .subst h2
    rw[PT.get_set_same,if_pos (by omega)]
    simp
   .rw[PT.get_set_other _ _ _ _ (fun e=>h2 (Pos.ofNat_inj (by omega) ht e).symm),if_neg (by omega)]
theorem TOk.of_list{P:Program}{ng:Nat}{cmps:List TypeId}(hlen:P.types.size<=2^31)(hinfo:∀ t i,P.types[t]? = some i->P.info? t=some i) :TOk ⟨y3p P.types.toList 0 .l,ng,cmps⟩ P:=by
 refine⟨fun t i h=>hinfo t i ?_⟩
 unfold Tys.get at h
 split at h
 .rename_i ht
  have ht:t<2^31:=by simpa[Nat.blt_eq]using ht
  rw[j05 ht _ _ _ (by simpa using hlen)]at h
  split at h
  .simpa using h
  .have:PT.get (Pos.ofNat t) (PT.l:PT TypeInfo)=none:=by cases Pos.ofNat t<;>rfl
   rw[this]at h;cases h
 .cases h
def j1q(T:Tys) :List (Nat×Func)->PT AFun->PT AFun
 | [],t=>t
 | (n,f)::l,t=>j1q T l (PT.set (Pos.ofNat n) (z46 T f) t)
def z1v{α:Type} :List (Nat×α)->PT α->PT α
 | [],t=>t
 | (n,s)::l,t=>z1v l (PT.set (Pos.ofNat n) (some s) t)
theorem z2o{α:Type}(p:Pos) :PT.get p (.l:PT α)=none:=by cases p<;>rfl
theorem j3m{T:Tys}{f:Nat}(hf:f<2^31){fi:AFun} :∀ {l:List (Nat×Func)} {t:PT AFun},(∀ p∈l,p.1<2^31)->PT.get (Pos.ofNat f) (j1q T l t)=some fi →
  (∃ p∈l,p.1=f/\z46 T p.2=some fi)\/PT.get (Pos.ofNat f) t=some fi
 | [],t,_,h=>.inr h
 | (n,g)::l,t,hl,h=>by
  simp only[j1q]at h
  rcases j3m hf (fun p hp=>hl p (List.mem_cons_of_mem _ hp)) h with⟨p,hp,h1⟩ | h
  .exact .inl ⟨p,List.mem_cons_of_mem _ hp,h1⟩
  .by_cases e:n=f
   .subst e
    rw[PT.get_set_same]at h
    exact .inl ⟨(n,g),by simp,rfl,h⟩
   .rw[PT.get_set_other _ _ _ _ (fun h'=>e (Pos.ofNat_inj (hl (n,g) (by simp)) hf h'))]at h
    exact .inr h
theorem z89{α:Type}{f:Nat}(hf:f<2^31){s:α} :∀ {l:List (Nat×α)} {t:PT α},(∀ p∈l,p.1<2^31)->PT.get (Pos.ofNat f) (z1v l t)=some s →
  (∃ p∈l,p.1=f/\p.2=s)\/PT.get (Pos.ofNat f) t=some s
 | [],t,_,h=>.inr h
 | (n,g)::l,t,hl,h=>by
  simp only[z1v]at h
  rcases z89 hf (fun p hp=>hl p (List.mem_cons_of_mem _ hp)) h with⟨p,hp,h1⟩ | h
  .exact .inl ⟨p,List.mem_cons_of_mem _ hp,h1⟩
  .by_cases e:n=f
   .subst e
    rw[PT.get_set_same]at h
    exact .inl ⟨(n,g),by simp,rfl,Option.some.inj h⟩
   .rw[PT.get_set_other _ _ _ _ (fun h'=>e (Pos.ofNat_inj (hl (n,g) (by simp)) hf h'))]at h
    exact .inr h
def z2k(P:Program)(T:Tys)(B:Nat)(f:FuncId)(s:List AVal->AHeap->ARes) :Prop :=
 ∀ φ H w args args' v H',HRel T B φ H w->LRel φ args args'.toList->s args H=some (v,H')->z7q P T B φ H w f args' v H'
def y3l(P:Program)(T:Tys)(B:Nat)(f:FuncId)(s:List AVal->AHeap->Option AHeap) :Prop :=
 ∀ φ H w args args' H',HRel T B φ H w->LRel φ args args'.toList->s args H=some H' →
  (callFunc f args').run P w=.ok (.enter f args') w/\CallsDIn Fence.wide 0 P f args' .returning w fun e u w'=>(∃ v,e=.returned v)/\u=.returning/\∃ φ',Sim T B φ H w φ' H' w'
theorem EnvOk.of_lists{P:Program}{T:Tys}{B:Nat}{fs:List (Nat×Func)}{ss:List (Nat×(List AVal->AHeap->ARes))}{dd:List (Nat×(List AVal->AHeap->Option AHeap))}
  (h1:∀ p∈fs,p.1<2^31/\P.funcs[p.1]? = some p.2/\(p.2.name == "runtime.NumGoroutine")=false) (h2:∀ p∈ss,p.1<2^31/\z2k P T B p.1 p.2) (h3:∀ p∈dd,p.1<2^31/\y3l P T B p.1 p.2) :
  EnvOk P T B ⟨j1q T fs .l,z1v ss .l,z1v dd .l⟩:=by
 refine⟨fun f fi hf h=>?_,fun f s hf h=>?_,fun f s hf h=>?_⟩
 .rcases j3m hf (fun p hp=>(h1 p hp).1) h with⟨p,hp,rfl,hc⟩ | h
  .exact⟨p.2,(h1 p hp).2.1,(h1 p hp).2.2,hc⟩
  .rw[z2o]at h;cases h
 .rcases z89 hf (fun p hp=>(h2 p hp).1) h with⟨p,hp,rfl,rfl⟩ | h
  .exact(h2 p hp).2
  .rw[z2o]at h;cases h
 .rcases z89 hf (fun p hp=>(h3 p hp).1) h with⟨p,hp,rfl,rfl⟩ | h
  .exact(h3 p hp).2
  .rw[z2o]at h;cases h
theorem z2k.of_one{P:Program}{T:Tys}{B:Nat}{E:Env}{n:Nat}{f:FuncId}{z48:List AVal}{H0 H1:AHeap}{v0:AVal}(hT:TOk2 T P)(hE:EnvOk P T B E)(hm:P.follows .mixedOrders=true)(h:callF E (ev E n) f z48 H0=some (v0,H1))
  {s:List AVal->AHeap->ARes} (hs:∀ args H v H',s args H=some (v,H')->args=z48/\H=H0/\v=v0/\H'=H1) :z2k P T B f s:=by
 intro φ H w args args' v H' hH hl hc
 obtain⟨rfl,rfl,rfl,rfl⟩:=hs _ _ _ _ hc
 exact .inl (j4r hT hE hm hH hl h)
end Go.Am
end
section
namespace Go.Am
mutual
def eqvV:AVal->AVal->Bool
 | .any,.any=>true
 | .func f a b,.func g c d=>Nat.beq f g && (eqvL a c && eqvL b d)
 | .iface t v,.iface u w=>Nat.beq t u && eqvV v w
 | .agg l,.agg m=>eqvL l m
 | .tup l,.tup m=>eqvL l m
 | a,b=>same a b
def eqvL:List AVal->List AVal->Bool
 | [],[]=>true
 | a::l,b::m=>eqvV a b && eqvL l m
 | _,_=>false
end
def eqvP:List (AVal×AVal)->List (AVal×AVal)->Bool
 | [],[]=>true
 | (a,b)::l,(c,d)::m=>eqvV a c && (eqvV b d && eqvP l m)
 | _,_=>false
def eqvO:AObj->AObj->Bool
 | .cells l a b,.cells m c d=>(a==c) && ((b==d) && eqvL l m)
 | .map l,.map m=>eqvP l m
 | .dfr a,.dfr b=>a==b
 | _,_=>false
def k1g:Option AObj->Option AObj->Bool
 | none,none=>true
 | some a,some b=>eqvO a b
 | _,_=>false
def eqvT:PT AObj->PT AObj->Bool
 | .l,.l=>true
 | .n a v b,.n c w d=>k1g v w && (eqvT a c && eqvT b d)
 | _,_=>false
def eqvH(h k:AHeap) :Bool:=Pos.beq h.nx k.nx && eqvT h.t k.t
mutual
theorem z9l:∀ (a b:AVal),eqvV a b=true->a=b
 | .any,b,h=>by cases b<;>first | rfl | (simp[eqvV,same]at h;done)
 | .func f x y,b,h=>by
  cases b<;>first
   | (simp[eqvV,same]at h;done)
   | skip
  simp only[eqvV,Bool.and_eq_true]at h
  rw[Nat.eq_of_beq_eq_true h.1,z7y _ _ h.2.1,z7y _ _ h.2.2]
 | .iface t v,b,h=>by
  cases b<;>first
   | (simp[eqvV,same]at h;done)
   | skip
  simp only[eqvV,Bool.and_eq_true]at h
  rw[Nat.eq_of_beq_eq_true h.1,z9l _ _ h.2]
 | .agg l,b,h=>by
  cases b<;>first
   | (simp[eqvV,same]at h;done)
   | skip
  simp only[eqvV]at h
  rw[z7y _ _ h]
 | .tup l,b,h=>by
  cases b<;>first
   | (simp[eqvV,same]at h;done)
   | skip
  simp only[eqvV]at h
  rw[z7y _ _ h]
 | .bool x,b,h=>z25 (by cases b<;>exact h)
 | .int k x,b,h=>z25 (by cases b<;>exact h)
 | .str x,b,h=>z25 (by cases b<;>exact h)
 | .pnil,b,h=>z25 (by cases b<;>exact h)
 | .ptr x y,b,h=>z25 (by cases b<;>exact h)
 | .snil,b,h=>z25 (by cases b<;>exact h)
 | .sl x y z u v,b,h=>z25 (by cases b<;>exact h)
 | .mnil,b,h=>z25 (by cases b<;>exact h)
 | .map x,b,h=>z25 (by cases b<;>exact h)
 | .fnil,b,h=>z25 (by cases b<;>exact h)
 | .yld x,b,h=>z25 (by cases b<;>exact h)
 | .inil,b,h=>z25 (by cases b<;>exact h)
theorem z7y:∀ (a b:List AVal),eqvL a b=true->a=b
 | [],b,h=>by cases b<;>simp_all [eqvL]
 | x::l,b,h=>by
  cases b with
  | nil=>simp[eqvL]at h
  | cons y m =>
   simp only[eqvL,Bool.and_eq_true]at h
   rw[z9l _ _ h.1,z7y _ _ h.2]
end
theorem y9h:∀ (a b:List (AVal×AVal)),eqvP a b=true->a=b
 | [],b,h=>by cases b<;>simp_all [eqvP]
 | (x,y)::l,b,h=>by
  cases b with
  | nil=>simp[eqvP]at h
  | cons z m =>
   obtain⟨z1,z2⟩:=z
   simp only[eqvP,Bool.and_eq_true]at h
   rw[z9l _ _ h.1,z9l _ _ h.2.1,y9h _ _ h.2.2]
theorem y9i(a b:AObj)(h:eqvO a b=true) :a=b:=by
 cases a<;>cases b<;>first
  | (simp[eqvO]at h;done)
  | skip
 .simp only[eqvO,Bool.and_eq_true,beq_iff_eq]at h
  rw[h.1,h.2.1,z7y _ _ h.2.2]
 .simp only[eqvO]at h
  rw[y9h _ _ h]
 .simp only[eqvO,beq_iff_eq]at h
  rw[h]
theorem j92:∀ (a b:PT AObj),eqvT a b=true->a=b
 | .l,b,h=>by cases b<;>simp_all [eqvT]
 | .n a v c,b,h=>by
  cases b with
  | l=>simp[eqvT]at h
  | n a' v' c' =>
   simp only[eqvT,Bool.and_eq_true]at h
   have hv:v=v':=by
    cases v<;>cases v'<;>first
     | rfl
     | (simp[k1g]at h;done)
     | skip
    rw[y9i _ _ h.1]
   rw[hv,j92 _ _ h.2.1,j92 _ _ h.2.2]
theorem y9j(h k:AHeap)(e:eqvH h k=true) :h=k:=by
 obtain⟨ht,hn⟩:=h
 obtain⟨kt,kn⟩:=k
 simp only[eqvH,Bool.and_eq_true]at e
 rw[Pos.beq_eq.1 e.1,j92 _ _ e.2]
end Go.Am
end
section
namespace Go.Am
open Go Go.RowKit
def y0h(i:TypeInfo) :Bool:=match i.zero with
 | some v=>Nat.beq v.cells.size i.size
 | none=>true
theorem TOk2.of_list{P:Program}{ng:Nat}{cmps:List TypeId}(hlen:P.types.size<=2^31)(hinfo:∀ t i,P.types[t]? = some i->P.info? t=some i)(hz:P.types.toList.all y0h=true)(hc:(cmps.all fun t=>!P.stoodInHeld t)=true) :
  TOk2 ⟨y3p P.types.toList 0 .l,ng,cmps⟩ P:=by
 refine⟨TOk.of_list hlen hinfo,fun t ht=>?_,fun t i v h hv=>?_⟩
 .have:=List.all_eq_true.1 hc t (by simpa using ht)
  simpa using this
 .unfold Tys.get at h
  split at h
  .rename_i htt
   have htt:t<2^31:=by simpa[Nat.blt_eq]using htt
   rw[j05 htt _ _ _ (by simpa using hlen)]at h
   split at h
   .have:=List.all_eq_true.1 hz i (List.mem_of_getElem? h)
    unfold y0h at this
    rw[hv]at this
    exact Nat.eq_of_beq_eq_true this
   .rw[z2o]at h;cases h
  .cases h
end Go.Am
end
section
namespace Go.Am
open Go
theorem j5f{P:Program}(t:TypeId)(i:TypeInfo)(h:P.types[t]? = some i) :P.info? t=some i:=by
 have hlt:t<P.types.size:=by
  rcases Nat.lt_or_ge t P.types.size with h' | h'
  .exact h'
  .rw[Array.getElem?_eq_none h']at h;cases h
 show(if t<P.types.size then P.types[t]? else _)=some i
 rw[if_pos hlt,h]
end Go.Am
end
