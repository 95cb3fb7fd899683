/- Part of the proof: AmDraw5, AmDraw6, AmDraw7. -/
import Derived.Test.YtaogphcjlkeakaaGreatDoorAm13
set_option linter.unusedSimpArgs false
set_option linter.unusedVariables false
section
namespace Go.Am
open Go Go.RowKit
def put1 (L:Nat→Bool) (i:Nat) :Nat→Bool:=fun j=>L j || Nat.beq j i
theorem put1_same (L:Nat→Bool) (i:Nat) :put1 L i i = true:=by simp [put1]
theorem put1_old {L:Nat→Bool} {i j:Nat} (h:L j = true) :put1 L i j = true:=by simp [put1,h]
theorem put1_ne {L:Nat→Bool} {i j:Nat} (h:j ≠ i) :put1 L i j = L j:=by
 have:Nat.beq j i = false:=by
  cases hb:Nat.beq j i with
  | false=>rfl
  | true=>exact absurd (Nat.eq_of_beq_eq_true hb) h
 simp [put1,this]
theorem put1_inv {L:Nat→Bool} {i j:Nat} (h:put1 L i j = true) :L j = true∨j = i:=by
 simp only [put1,Bool.or_eq_true] at h
 rcases h with h | h
 ·exact .inl h
 ·exact .inr (Nat.eq_of_beq_eq_true h)
theorem put1_false {L:Nat→Bool} {i j:Nat} (h:put1 L i j = false) :L j = false∧j ≠ i:=by
 constructor
 ·cases hl:L j with
  | false=>rfl
  | true=>rw [put1_old hl] at h; cases h
 ·rintro rfl
  rw [put1_same] at h; cases h
theorem TRel.ext {φ:Emb} {nt:Nat} {t t':PT AVal} {tmps:Array Value} (h:TRel φ nt t tmps) (he:∀ p,PT.get p t = PT.get p t') :TRel φ nt t' tmps :=
 ⟨h.1,h.2.1,fun i hi=>by
  have:=h.2.2 i hi
  unfold tget at this ⊢
  rw [← he]; exact this⟩
inductive Pend (φ:Emb) (H0 H:AHeap) (seen:List Seen) (b:Option Pos) (te:PT AVal) (e:ADraw) (v:AVal) :Prop where
 | off (h:wantedA te e.o.guard = some false) (hv:v = .undef)
 | look (h:wantedA te e.o.guard = some true) (hc:e.cls = 0) (hq:quiet te H e.o.op = some v) (hs:(⟨te,e.o.op,v,e.bit⟩ :Seen) ∈ seen)
 | make (h:wantedA te e.o.guard = some true) (hc:e.cls = 1) (z:List AVal) (vf:Pos→AVal) (p:Pos) (hb:b = some p) (hm:makeA te e.o.op = some (z,vf)) (hv:v = vf p) (hp:φ p = none) (hg:PT.get p H.t = some (.cells z false false)) (h0:H0.nx.toNat≤p.toNat)
section
variable (P:Program) (T:Tys) (B:Nat) (nt:Nat) (S:List ADraw) (t0:PT AVal) (ds:List ADef) (φ0:Emb) (H0:AHeap) (w0:World)
structure Inv (vals:List (ADraw × AVal)) (H:AHeap) (seen:List Seen) (blk:Nat→Option Pos) (L:Nat→Bool) (φ:Emb) (a:Act) (w:World) :Prop where
 clo:∀ x ∈ S,L x.idx = true→∀ i,x.ahead.testBit i = true→L i = true
 sub:∀ i,L i = true→∃ x ∈ vals,x.1.idx = i
 loud:∀ x ∈ vals,x.1.cls = 2→L x.1.idx = true
 sim:Sim T B φ0 H0 w0 φ H w
 act:ActRel φ nt ⟨tab L t0 vals,ds⟩ a
 pend:∀ l1 e v l2,vals = l1 ++ (e,v) :: l2→L e.idx = false→Pend φ H0 H seen (blk e.idx) (tab (fun _=>true) t0 l1) e v
 inj:∀ i j p,i ≠ j→L i = false→L j = false→blk i = some p→blk j ≠ some p
 low:∀ j p,blk j = some p→p.toNat < H.nx.toNat
end
section
variable {P:Program} {T:Tys} {B:Nat} {nt:Nat} {ops:Array Oper} {D S:List ADraw} {t0:PT AVal} {ds:List ADef} {φ0:Emb} {H0:AHeap} {w0:World}
 {vals:List (ADraw × AVal)} {H:AHeap} {seen:List Seen} {blk:Nat→Option Pos} {L:Nat→Bool} {φ:Emb} {a:Act} {w:World} {E:Env} {rec:Rec}
theorem ready_ahead (hO:Ord T nt ops.toList D S) (hI:Inv T B nt S t0 ds φ0 H0 w0 vals H seen blk L φ a w) {e:ADraw} (he:e ∈ S) (hL:∀ i,e.need.testBit i = true→L i = true) :∀ i,e.ahead.testBit i = true→L i = true:=by
 intro i hi
 obtain ⟨l1,l2,hS⟩:=List.append_of_mem he
 rcases (hO.each _ _ _ hS).clo i hi with h | ⟨x,hx,h,hxi⟩
 ·exact hL i h
 ·obtain ⟨y,hy,hyx⟩:=(hO.each _ _ _ hS).need _ h
  have hyS:y ∈ S:=by rw [hS]; exact List.mem_append_left _ hy
  have:y = x:=hO.uniq y (hO.sub y hyS) x hx hyx
  subst this
  exact hI.clo y hyS (hL _ h) i hxi
theorem tab_put (hO:Ord T nt ops.toList D S) {rest:List ADraw} (hS:S = vals.map (·.1) ++ rest) {l1:List (ADraw × AVal)} {e:ADraw} {v:AVal} {l2:List (ADraw × AVal)} (hv:vals = l1 ++ (e,v) :: l2) (_hL:L e.idx = false) :
  ∀ p,PT.get p (tput (tab L t0 vals) e.o.dst v) = PT.get p (tab (put1 L e.idx) t0 vals):=by
 intro p
 have hevals:(e,v) ∈ vals:=by rw [hv]; simp
 have inS:∀ x ∈ vals,x.1 ∈ S:=fun x hx=>by rw [hS]; exact List.mem_append_left _ (List.mem_map.2 ⟨x,hx,rfl⟩)
 have one:∀ x ∈ vals,x.1.idx = e.idx→x = (e,v):=by
  intro x hx hxe
  have hSe:S = l1.map (·.1) ++ e :: (l2.map (·.1) ++ rest):=by rw [hS,hv]; simp
  rw [hv] at hx
  rcases List.mem_append.1 hx with h | h
  ·exact absurd hxe (hO.idx_ne hSe (List.mem_map.2 ⟨_,h,rfl⟩))
  ·rcases List.mem_cons.1 h with h | h
   ·exact h
   ·exfalso
    obtain ⟨k1,k2,hk⟩:=List.append_of_mem h
    have hSk:S = (l1 ++ (e,v) :: k1).map (·.1) ++ x.1 :: (k2.map (·.1) ++ rest):=by rw [hS,hv,hk]; simp
    exact hO.idx_ne hSk (x:=e) (by simp) hxe.symm
 by_cases hd:e.o.dst = some p
 ·rw [hd,get_tput_same]
  symm
  refine tab_get_some hevals hd (put1_same _ _) fun x hx hxd=>?_
  apply one x hx
  obtain ⟨m1,m2,hm⟩:=List.append_of_mem (inS _ hevals)
  rcases (hO.each _ _ _ hm).dst x.1 (hO.sub _ (inS x hx)) with h | h
  ·exact h
  ·exact absurd hd (h p hxd)
 ·rw [get_tput_other hd]
  refine tab_get_congr rfl fun x hx hxd=>?_
  rw [put1_ne]
  intro hxe
  have:=one x hx hxe
  rw [this] at hxd
  exact hd hxd
theorem Sim.lay (hS:Sim T B φ0 H0 w0 φ H w) {p:Pos} {k:Nat} {w':World} (hp:φ p = none) (h0:H0.nx.toNat≤p.toNat) (hr:HRel T B (φ.put p ⟨w.heap.size,0,k⟩) H w') (hb:Below B w w') :Sim T B φ0 H0 w0 (φ.put p ⟨w.heap.size,0,k⟩) H w':=by
 have hle:=Emb.le_put (φ:=φ) (p:=p) ⟨w.heap.size,0,k⟩ hp
 refine ⟨⟨Emb.le_trans hS.ext.le hle,fun q hq hn=>?_,hS.ext.nx⟩,hr,hS.below.trans hb⟩
 obtain ⟨h1,h2⟩:=hS.ext.old q hq hn
 have:q ≠ p:=fun e=>by rw [e] at hq; omega
 exact ⟨by rw [Emb.put_other _ _ this]; exact h1,h2⟩
theorem pend_step (hT:TOk2 T P) (hO:Ord T nt ops.toList D S) (hI:Inv T B nt S t0 ds φ0 H0 w0 vals H seen blk L φ a w) {rest:List ADraw} (hS:S = vals.map (·.1) ++ rest)
  {e:ADraw} {v:AVal} {l1 l2:List (ADraw × AVal)} (hv:vals = l1 ++ (e,v) :: l2) (hL:L e.idx = false) (hneed:∀ i,e.need.testBit i = true→L i = true)
  {r:Option Nat} {Q:Exit→Act→World→Prop} {K:Act→World→Prop} (hK:∀ φ' a' w',Inv T B nt S t0 ds φ0 H0 w0 vals H seen blk (put1 L e.idx) φ' a' w'→K a' w') :
  wpOpIn (FR r) 0 P ops Q e.idx K a w:=by
 have hSe:S = l1.map (·.1) ++ e :: (l2.map (·.1) ++ rest):=by rw [hS,hv]; simp
 have heS:e ∈ S:=by rw [hSe]; simp
 have hD:=hO.ok e (hO.sub e heS)
 obtain ⟨o,ho,hco,hno⟩:=hD.op
 have ho':ops[e.idx]? = some o:=by simpa using ho
 obtain ⟨hg,hd,hop⟩:=compOper_inv hco
 have hah:=ready_ahead hO hI heS hneed
 have hagree:=hO.agree hS hI.clo hSe hv hL hah (t0:=t0)
 have hag1:Agree (tab (fun _=>true) t0 l1) (tab L t0 vals) e.o.op.tmps:=fun p hp=>by
  have:=hagree p (List.mem_append_left _ hp)
  unfold tget; rw [this]
 have hag2:wantedA (tab (fun _=>true) t0 l1) e.o.guard = wantedA (tab L t0 vals) e.o.guard:=wantedA_congr fun p hp=>hagree p (List.mem_append_right _ hp)
 have hput:=tab_put (t0:=t0) hO hS hv hL
 have next:∀ {φ':Emb} {w':World} {u:Value},Sim T B φ0 H0 w0 φ' H w'→φ.le φ'→VRel φ' v u→(∀ p,φ p = none→blk e.idx ≠ some p→φ' p = none)→K (a.put o.dst u) w':=by
  intro φ' w' u hsim hle hvu hkeep
  refine hK φ' _ w' ⟨?_,?_,?_,hsim,?_,?_,?_,hI.low⟩
  ·intro x hx hxL i hi
   rcases put1_inv hxL with h | h
   ·exact put1_old (hI.clo x hx h i hi)
   ·have:x = e:=hO.uniqS hx heS h
    subst this
    exact put1_old (hah i hi)
  ·intro i hi
   rcases put1_inv hi with h | h
   ·exact hI.sub i h
   ·exact ⟨(e,v),by rw [hv]; simp,h.symm⟩
  ·intro x hx hc
   exact put1_old (hI.loud x hx hc)
  ·have h1:=(hI.act.mono hle).put hd hvu
   exact ⟨h1.t.ext hput,h1.ds⟩
  ·intro m1 e' v' m2 hm hL'
   obtain ⟨h1,h2⟩:=put1_false hL'
   have hp:=hI.pend m1 e' v' m2 hm h1
   cases hp with
   | off h hv=>exact .off h hv
   | look h hc hq hs=>exact .look h hc hq hs
   | make h hc z vf p hb hm hv hp hg h0=>exact .make h hc z vf p hb hm hv (hkeep p hp (hI.inj _ _ p h2 h1 hL hb)) hg h0
  ·intro i j p hij hi hj hb
   exact hI.inj i j p hij (put1_false hi).1 (put1_false hj).1 hb
 unfold wpOpIn
 rw [ho']
 simp only
 have hpe:=hI.pend l1 e v l2 hv hL
 cases hpe with
 | off h hv0 =>
  rw [hag2] at h
  rw [wanted_ok hI.act.t hg h,if_neg (by simp)]
  subst hv0
  exact ⟨fun f _=>FR_fn r f,next hI.sim (Emb.le_refl _) VRel.undef (fun p hp _=>hp)⟩
 | look h hc hq hs =>
  rw [hag2] at h
  rw [quiet_congr hag1] at hq
  rw [wanted_ok hI.act.t hg h,if_pos rfl]
  rcases hop with hop | hop
  ·obtain ⟨u,hu,hvu⟩:=quiet_ok hT hI.sim.rel hI.act.t hop hq
   have hnd:∀ c,o.op ≠ .defer c:=by
    intro c hd
    rw [hd] at hop
    simp only [compOp] at hop
    split at hop
    ·split at hop
     ·have he:=Option.some.inj hop
      rw [← he] at hq; simp [quiet] at hq
     ·cases hop
    ·cases hop
   refine ⟨fun f _=>FR_fn r f,?_⟩
   rw [Oper.semAt_eq _ _ _ hnd,hu]
   exact next hI.sim (Emb.le_refl _) hvu (fun p hp _=>hp)
  ·rw [hop] at hq; simp [quiet] at hq
 | make h hc z vf p hb hm hv0 hp hgp h0 =>
  rw [hag2] at h
  rw [makeA_congr hag1] at hm
  rw [wanted_ok hI.act.t hg h,if_pos rfl]
  rcases hop with hop | hop
  ·obtain ⟨hmk,hnd⟩:=make_ok hT hI.sim.rel hI.act.t hop hm
   obtain ⟨u,w',k,g1,g2,g3,g4⟩:=hmk.lays hI.sim.rel hp hgp
   refine ⟨fun f _=>FR_fn r f,?_⟩
   rw [Oper.semAt_eq _ _ _ hnd,g1]
   refine next (Sim.lay hI.sim hp h0 g3 g4) (Emb.le_put _ hp) (by rw [hv0]; exact g2) (fun q hq hne=>?_)
   have:q ≠ p:=fun e'=>hne (by rw [hb,e'])
   rw [Emb.put_other _ _ this]; exact hq
  ·rw [hop] at hm; simp [makeA] at hm
end
end Go.Am
end

section
namespace Go.Am
open Go Go.RowKit
def unl (listed:Array Bool) :Nat:=listed.toList.count false
theorem count_set:∀ (l:List Bool) (i:Nat),l[i]? = some false→(l.set i true).count false + 1 = l.count false
 | [],i,h=>by simp at h
 | b :: l,0,h=>by
  simp at h
  subst h
  simp
 | b :: l,i + 1,h=>by
  have:=count_set l i (by simpa using h)
  cases b <;> simp <;> omega
theorem unl_set {listed:Array Bool} {i:Nat} (h:listed.getD i true = false) :unl (listed.setIfInBounds i true) + 1 = unl listed:=by
 unfold unl
 rw [Array.toList_setIfInBounds]
 apply count_set
 rw [Array.getD_eq_getD_getElem?] at h
 rw [Array.getElem?_toList]
 cases hc:listed[i]? with
 | none=>rw [hc] at h; cases h
 | some b=>rw [hc] at h; simp at h; rw [h]
theorem getD_false {listed:Array Bool} {i:Nat} (h:listed.getD i true = false) :listed.getD i false = false∧i < listed.size:=by
 rw [Array.getD_eq_getD_getElem?] at h ⊢
 cases hc:listed[i]? with
 | none=>rw [hc] at h; cases h
 | some b =>
  rw [hc] at h
  simp at h
  rcases Nat.lt_or_ge i listed.size with h' | h'
  ·exact ⟨by simp [h],h'⟩
  ·rw [Array.getElem?_eq_none h'] at hc; cases hc
theorem set_put1 {listed:Array Bool} {i:Nat} (h:i < listed.size) :(fun j=>(listed.setIfInBounds i true).getD j false) = put1 (fun j=>listed.getD j false) i:=by
 funext j
 by_cases e:j = i
 ·subst e
  rw [put1_same]
  simp [Array.getD_eq_getD_getElem?,h]
 ·rw [put1_ne e]
  simp only [Array.getD_eq_getD_getElem?]
  rw [Array.getElem?_setIfInBounds_ne (fun h=>e h.symm)]
section
variable {P:Program} {T:Tys} {B:Nat} {nt:Nat} {ops:Array Oper} {D S:List ADraw} {t0:PT AVal} {ds:List ADef} {φ0:Emb} {H0:AHeap} {w0:World}
 {vals:List (ADraw × AVal)} {H:AHeap} {seen:List Seen} {blk:Nat→Option Pos} {L:Nat→Bool} {φ:Emb} {a:Act} {w:World} {E:Env} {rec:Rec}
theorem need_listed (hO:Ord T nt ops.toList D S) {listed:Array Bool} {e:ADraw} (he:e ∈ S) (hr:e.idx ∈ Region.ready .any ops listed) :∀ i,e.need.testBit i = true→listed.getD i false = true:=by
 intro i hi
 obtain ⟨h1,o,ho,hall⟩:=mem_ready.1 hr
 obtain ⟨o',ho',_,hn⟩:=(hO.ok e (hO.sub e he)).op
 have:o' = o:=by
  have h2:ops[e.idx]? = some o':=by simpa using ho'
  rw [ho] at h2; exact (Option.some.inj h2).symm
 subst this
 rw [hn,needOf_iff] at hi
 obtain ⟨ed,hed,hb,rfl⟩:=hi
 exact hall ed (by simpa using hed) hb
theorem all_listed (hO:Ord T nt ops.toList D S) {listed:Array Bool} (hsz:listed.size = ops.size) (hr:Region.ready .any ops listed = []) :∀ i,i < ops.size→listed.getD i false = true:=by
 have step:∀ l1 e l2,S = l1 ++ e :: l2→(∀ x ∈ l1,listed.getD x.idx false = true)→listed.getD e.idx false = true:=by
  intro l1 e l2 hS hl
  cases hc:listed.getD e.idx false with
  | true=>rfl
  | false =>
   exfalso
   have heS:e ∈ S:=by rw [hS]; simp
   have hlt:e.idx < listed.size:=by rw [hsz]; simpa using hO.lt heS
   obtain ⟨o,ho,_,hn⟩:=(hO.ok e (hO.sub e heS)).op
   have:e.idx ∈ Region.ready .any ops listed:=by
    refine mem_ready.2 ⟨?_,o,by simpa using ho,fun ed hed hb=>?_⟩
    ·rw [Array.getD_eq_getD_getElem?] at hc ⊢
     rw [Array.getElem?_eq_getElem hlt] at hc ⊢
     simpa using hc
    ·obtain ⟨x,hx,hxi⟩:=(hO.each _ _ _ hS).need ed.on (by rw [hn,needOf_iff]; exact ⟨ed,by simpa using hed,hb,rfl⟩)
     rw [← hxi]; exact hl x hx
   rw [hr] at this; cases this
 have all:∀ k l2,∀ l1:List ADraw,l1.length = k→S = l1 ++ l2→∀ x ∈ l1,listed.getD x.idx false = true:=by
  intro k
  induction k with
  | zero=>intro l2 l1 h _ x hx; rw [List.length_eq_zero_iff.1 h] at hx; cases hx
  | succ k ih =>
   intro l2 l1 h hS x hx
   rcases List.eq_nil_or_concat l1 with rfl | ⟨l1',y,rfl⟩
   ·cases hx
   ·have hlen:l1'.length = k:=by simp at h; omega
    have hS':S = l1' ++ y :: l2:=by rw [hS]; simp
    have hprev:=ih (y :: l2) l1' hlen hS'
    rw [List.concat_eq_append] at hx
    rcases List.mem_append.1 hx with hx | hx
    ·exact hprev x hx
    ·simp at hx; subst hx; exact step l1' x l2 hS' hprev
 intro i hi
 obtain ⟨x,hx,rfl⟩:=hO.all i (by simpa using hi)
 exact all S.length [] S rfl (by simp) x hx
theorem inner (hT:TOk2 T P) (hO:Ord T nt ops.toList D S) {rest:List ADraw} (hS:S = vals.map (·.1) ++ rest) {r:Option Nat} {Q:Exit→Act→World→Prop}
  (hdone:∀ L φ a w,Inv T B nt S t0 ds φ0 H0 w0 vals H seen blk L φ a w→(∀ i,i < ops.size→L i = true)→Q .normal a w)
  (hloud:∀ (i fuel:Nat) (listed:Array Bool) φ a w,(¬ ∃ x ∈ vals,x.1.idx = i)→listed.size = ops.size→Inv T B nt S t0 ds φ0 H0 w0 vals H seen blk (fun j=>listed.getD j false) φ a w→i ∈ Region.ready .any ops listed→unl listed≤fuel + 1 →
   wpOpIn (FR r) 0 P ops Q i (wpAnyIn (FR r) 0 P .any ops Q fuel (listed.setIfInBounds i true)) a w) :
  ∀ (fuel:Nat) (listed:Array Bool) (φ:Emb) (a:Act) (w:World),listed.size = ops.size→Inv T B nt S t0 ds φ0 H0 w0 vals H seen blk (fun j=>listed.getD j false) φ a w→unl listed≤fuel→wpAnyIn (FR r) 0 P .any ops Q fuel listed a w
 | 0,listed,φ,a,w,hsz,hI,hu=>by
  have hr:Region.ready .any ops listed = []:=by
   cases hc:Region.ready .any ops listed with
   | nil=>rfl
   | cons i l =>
    have:=(mem_ready.1 (by rw [hc]; simp:i ∈ Region.ready .any ops listed)).1
    have:=unl_set this
    omega
  exact ⟨hr,hdone _ φ a w hI (all_listed hO hsz hr)⟩
 | fuel + 1,listed,φ,a,w,hsz,hI,hu=>by
  refine ⟨fun hr=>hdone _ φ a w hI (all_listed hO hsz hr),fun i hi=>?_⟩
  have hun:=(mem_ready.1 hi).1
  obtain ⟨hL,hlt⟩:=getD_false hun
  by_cases hin:∃ x ∈ vals,x.1.idx = i
  ·obtain ⟨⟨e,v⟩,hx,rfl⟩:=hin
   obtain ⟨l1,l2,hv⟩:=List.append_of_mem hx
   have heS:e ∈ S:=by rw [hS]; exact List.mem_append_left _ (List.mem_map.2 ⟨_,hx,rfl⟩)
   refine pend_step hT hO hI hS hv hL (need_listed hO heS hi) fun φ' a' w' hI'=>?_
   refine inner hT hO hS hdone hloud fuel _ φ' a' w' (by simpa using hsz) ?_ (by have:=unl_set hun; omega)
   rw [set_put1 hlt]
   exact hI'
  ·exact hloud i fuel listed φ a w hin hsz hI hi hu
theorem append_one {α:Type} {l l1 l2:List α} {x y:α} (h:l ++ [x] = l1 ++ y :: l2) :(l = l1∧x = y∧l2 = [])∨∃ l2',l = l1 ++ y :: l2':=by
 rcases List.eq_nil_or_concat l2 with rfl | ⟨m,z,rfl⟩
 ·have:=List.append_inj' h rfl
  exact .inl ⟨this.1,by simpa using this.2,rfl⟩
 ·right
  rw [List.concat_eq_append] at h
  have h':l ++ [x] = (l1 ++ y :: m) ++ [z]:=by rw [h]; simp
  exact ⟨m,(List.append_inj' h' rfl).1⟩
theorem inv_tell (hO:Ord T nt ops.toList D S) {d:ADraw} {l:List ADraw} (hS:S = vals.map (·.1) ++ d :: l) (hI:Inv T B nt S t0 ds φ0 H0 w0 vals H seen blk L φ a w) (hcls:d.cls ≠ 2) {H1:AHeap} {seen1:List Seen} {blk1:Nat→Option Pos} {v:AVal}
  (hsim:Sim T B φ0 H0 w0 φ H1 w) (hle:HLe H H1) (hseen:∀ s ∈ seen,s ∈ seen1) (hblk:∀ j,j ≠ d.idx→blk1 j = blk j) (hlow:∀ j p,blk1 j = some p→p.toNat < H1.nx.toNat) (hinj:∀ p,blk1 d.idx = some p→∀ j,j ≠ d.idx→blk j ≠ some p)
  (hpend:Pend φ H0 H1 seen1 (blk1 d.idx) (tab (fun _=>true) t0 vals) d v) :Inv T B nt S t0 ds φ0 H0 w0 (vals ++ [(d,v)]) H1 seen1 blk1 L φ a w:=by
 have hE:=hO.each _ _ _ hS
 have hLd:L d.idx = false:=by
  cases hc:L d.idx with
  | false=>rfl
  | true =>
   obtain ⟨x,hx,hxi⟩:=hI.sub _ hc
   exact absurd hxi (hE.new x.1 (List.mem_map.2 ⟨x,hx,rfl⟩))
 refine ⟨hI.clo,fun i hi=>?_,fun x hx hc=>?_,hsim,?_,fun l1 e v' l2 hv hL=>?_,fun i j p hij hi hj hb=>?_,hlow⟩
 ·obtain ⟨x,hx,h⟩:=hI.sub i hi
  exact ⟨x,List.mem_append_left _ hx,h⟩
 ·rcases List.mem_append.1 hx with hx | hx
  ·exact hI.loud x hx hc
  ·simp at hx; subst hx; exact absurd hc hcls
 ·rw [tab_append,hLd]; exact hI.act
 ·rcases append_one hv with ⟨rfl,he,_⟩ | ⟨l2',hv'⟩
  ·cases he; exact hpend
  ·have hne:e.idx ≠ d.idx:=hE.new e (List.mem_map.2 ⟨(e,v'),by rw [hv']; simp,rfl⟩)
   have hp:=hI.pend l1 e v' l2' hv' hL
   rw [hblk _ hne]
   cases hp with
   | off h hv=>exact .off h hv
   | look h hc hq hs=>exact .look h hc (quiet_mono hle hq) (hseen _ hs)
   | make h hc z vf p hb hm hv hp hg h0=>exact .make h hc z vf p hb hm hv hp (hle _ _ hg) h0
 ·by_cases h1:i = d.idx
  ·subst h1
   rw [hblk j (fun e=>hij e.symm)]
   exact hinj p hb j (fun e=>hij e.symm)
  ·by_cases h2:j = d.idx
   ·subst h2
    intro hb'
    rw [hblk i h1] at hb
    exact hinj p hb' i h1 hb
   ·rw [hblk j h2]; rw [hblk i h1] at hb
    exact hI.inj i j p hij hi hj hb
theorem inv_loud (hO:Ord T nt ops.toList D S) {d:ADraw} {l:List ADraw} (hS:S = vals.map (·.1) ++ d :: l) (hI:Inv T B nt S t0 ds φ0 H0 w0 vals H seen blk L φ a w) (hah:∀ i,d.ahead.testBit i = true→L i = true) {H1:AHeap} {seen1:List Seen} {v:AVal} {u:Value} {φ':Emb} {w':World} {o:Oper}
  (hd:dstOf nt o.dst = some d.o.dst) (hsim:Sim T B φ H w φ' H1 w') (hv:VRel φ' v u) (hkeep:∀ te e v',L e.idx = false→e ∈ S→Pend φ H0 H seen (blk e.idx) te e v'→Pend φ' H0 H1 seen1 (blk e.idx) te e v') :
  Inv T B nt S t0 ds φ0 H0 w0 (vals ++ [(d,v)]) H1 seen1 blk (put1 L d.idx) φ' (a.put o.dst u) w':=by
 have hE:=hO.each _ _ _ hS
 have hdS:d ∈ S:=by rw [hS]; simp
 refine ⟨fun x hx hxL i hi=>?_,fun i hi=>?_,fun x hx hc=>?_,hI.sim.trans hsim,?_,fun l1 e v' l2 hv' hL=>?_,fun i j p hij hi hj hb=>?_,fun j p hb=>?_⟩
 ·rcases put1_inv hxL with h | h
  ·exact put1_old (hI.clo x hx h i hi)
  ·have:x = d:=hO.uniqS hx hdS h
   subst this
   exact put1_old (hah i hi)
 ·rcases put1_inv hi with h | h
  ·obtain ⟨x,hx,h⟩:=hI.sub i h
   exact ⟨x,List.mem_append_left _ hx,h⟩
  ·exact ⟨(d,v),by simp,h.symm⟩
 ·rcases List.mem_append.1 hx with hx | hx
  ·exact put1_old (hI.loud x hx hc)
  ·simp at hx; subst hx; exact put1_same _ _
 ·rw [tab_append,put1_same]
  have:tab (put1 L d.idx) t0 vals = tab L t0 vals:=tab_congr fun x hx=>put1_ne (hE.new x.1 (List.mem_map.2 ⟨x,hx,rfl⟩))
  rw [this]
  exact (hI.act.mono hsim.ext.le).put hd hv
 ·obtain ⟨h1,h2⟩:=put1_false hL
  rcases append_one hv' with ⟨_,he,_⟩ | ⟨l2',hv''⟩
  ·cases he; exact absurd rfl h2
  ·exact hkeep _ e v' h1 (by rw [hS]; exact List.mem_append_left _ (List.mem_map.2 ⟨(e,v'),by rw [hv'']; simp,rfl⟩)) (hI.pend l1 e v' l2' hv'' h1)
 ·exact hI.inj i j p hij (put1_false hi).1 (put1_false hj).1 hb
 ·exact Nat.lt_of_lt_of_le (hI.low j p hb) hsim.ext.nx
end
end Go.Am
end

section
namespace Go.Am
open Go Go.RowKit
section
variable {P:Program} {T:Tys} {B:Nat} {nt:Nat} {ops:Array Oper} {D S:List ADraw} {t0:PT AVal} {ds:List ADef} {φ0:Emb} {H0:AHeap} {w0:World} {E:Env} {rec:Rec}
theorem HLe.refl (H:AHeap) :HLe H H:=fun _ _ h=>h
theorem HLe.new {T:Tys} {B:Nat} {φ:Emb} {H:AHeap} {w:World} (hH:HRel T B φ H w) (o:AObj) :HLe H (H.new o).2:=by
 intro p x hp
 have:H.nx ≠ p:=fun e=>by rw [← e,hH.fresh_get] at hp; cases hp
 simp only [AHeap.new]
 rw [PT.get_set_other _ _ _ _ this]
 exact hp
theorem clsOf_le (ao:AOp) :clsOf ao = 0∨clsOf ao = 1∨clsOf ao = 2:=by
 unfold clsOf
 split
 ·exact .inr (.inl rfl)
 ·exact .inr (.inl rfl)
 ·exact .inr (.inl rfl)
 ·exact .inr (.inl rfl)
 ·split
  ·exact .inl rfl
  ·exact .inr (.inr rfl)
theorem draw_main (hT:TOk2 T P) (hE:EnvOk P T B E) (hrec:SoundRec P T B rec) (hO:Ord T nt ops.toList D S) {r:Option Nat} {e:AExit} {aa':AAct} {H':AHeap} :
  ∀ (rest:List ADraw) (vals:List (ADraw × AVal)) (H:AHeap) (seen:List Seen) (blk:Nat→Option Pos),S = vals.map (·.1) ++ rest→drawA E rec ds rest (tab (fun _=>true) t0 vals) H seen = some (e,aa',H') →
   ∀ (fuel:Nat) (listed:Array Bool) (φ:Emb) (a:Act) (w:World),listed.size = ops.size→Inv T B nt S t0 ds φ0 H0 w0 vals H seen blk (fun j=>listed.getD j false) φ a w→unl listed≤fuel →
   wpAnyIn (FR r) 0 P .any ops (Post T B φ0 H0 w0 nt e aa' H') fuel listed a w
 | [],vals,H,seen,blk,hS,h=>by
  simp only [drawA] at h
  cases h
  refine inner hT hO hS (fun L φ a w hI hall=>?_) (fun i fuel listed φ a w hni hsz hI hi hu=>?_)
  ·refine ⟨rfl,φ,hI.sim,?_⟩
   have:tab L t0 vals = tab (fun _=>true) t0 vals:=tab_congr fun x hx=>by
    have hxS:x.1 ∈ S:=by rw [hS]; exact List.mem_append_left _ (List.mem_map.2 ⟨x,hx,rfl⟩)
    exact hall _ (by simpa using hO.lt hxS)
   rw [← this]
   exact hI.act
  ·exfalso
   obtain ⟨_,hlt⟩:=getD_false (mem_ready.1 hi).1
   obtain ⟨x,hx,hxi⟩:=hO.all i (by rw [hsz] at hlt; simpa using hlt)
   rw [hS,List.append_nil] at hx
   obtain ⟨y,hy,rfl⟩:=List.mem_map.1 hx
   exact hni ⟨y,hy,hxi⟩
 | d :: l,vals,H,seen,blk,hS,h=>by
  have hEd:=hO.each _ _ _ hS
  have hdS:d ∈ S:=by rw [hS]; simp
  have hD:=hO.ok d (hO.sub d hdS)
  have hS':∀ v:AVal,S = (vals ++ [(d,v)]).map (·.1) ++ l:=fun v=>by rw [hS]; simp
  have htab:∀ v:AVal,tput (tab (fun _=>true) t0 vals) d.o.dst v = tab (fun _=>true) t0 (vals ++ [(d,v)]):=fun v=>by rw [tab_append]
  have hcls:=clsOf_le d.o.op
  rw [← hD.cls] at hcls
  by_cases hc2:d.cls = 2
  ·
   refine inner hT hO hS (fun L φ a w hI hall=>?_) (fun i fuel listed φ a w hni hsz hI hi hu=>?_)
   ·exfalso
    obtain ⟨x,hx,hxi⟩:=hI.sub d.idx (hall _ (by simpa using hO.lt hdS))
    exact hEd.new x.1 (List.mem_map.2 ⟨x,hx,rfl⟩) hxi
   ·have hun:=(mem_ready.1 hi).1
    obtain ⟨hL,hlt⟩:=getD_false hun
    have hid:i = d.idx:=by
     obtain ⟨x,hx,hxi⟩:=hO.all i (by rw [hsz] at hlt; simpa using hlt)
     have hxS:=hx
     rw [hS] at hx
     rcases List.mem_append.1 hx with hx | hx
     ·obtain ⟨y,hy,rfl⟩:=List.mem_map.1 hx
      exact absurd ⟨y,hy,hxi⟩ hni
     ·rcases List.mem_cons.1 hx with rfl | hx
      ·exact hxi.symm
      ·exfalso
       obtain ⟨m1,m2,hm⟩:=List.append_of_mem hx
       have hSx:S = (vals.map (·.1) ++ d :: m1) ++ x :: m2:=by rw [hS,hm]; simp
       have:=(hO.each _ _ _ hSx).loud d (by simp) hc2
       have hdL:=ready_ahead hO hI hxS (need_listed hO hxS (by rw [hxi]; exact hi)) _ this
       obtain ⟨y,hy,hyi⟩:=hI.sub _ hdL
       exact hEd.new y.1 (List.mem_map.2 ⟨y,hy,rfl⟩) hyi
    subst hid
    have hah:=ready_ahead hO hI hdS (need_listed hO hdS hi)
    have hagree:=hO.agree (t0:=t0) hS hI.clo (l1:=vals) (tl:=[]) hS (by simp) hL hah
    have hag1:Agree (tab (fun _=>true) t0 vals) (tab (fun j=>listed.getD j false) t0 vals) d.o.op.tmps:=fun p hp=>by
     have:=hagree p (List.mem_append_left _ hp)
     unfold tget; rw [this]
    have hag2:wantedA (tab (fun _=>true) t0 vals) d.o.guard = wantedA (tab (fun j=>listed.getD j false) t0 vals) d.o.guard:=wantedA_congr fun p hp=>hagree p (List.mem_append_right _ hp)
    obtain ⟨o,ho,hco,hno⟩:=hD.op
    have ho':ops[d.idx]? = some o:=by simpa using ho
    obtain ⟨hg,hd,hop⟩:=compOper_inv hco
    have hsz':(listed.setIfInBounds d.idx true).size = ops.size:=by simpa using hsz
    have hu':unl (listed.setIfInBounds d.idx true)≤fuel:=by have:=unl_set hun; omega
    simp only [drawA] at h
    unfold wpOpIn
    rw [ho']
    simp only
    split at h
    ·rename_i hw
     rw [hag2] at hw
     rw [wanted_ok hI.act.t hg hw,if_pos rfl]
     rw [hc2] at h
     simp only at h
     split at h
     ·rename_i v H1 hex
      split at h
      ·rename_i seen1 hseen
       rw [forceV_eq,htab] at h
       rw [execA_congr hag1] at hex
       rcases hop with hop | hop
       ·refine exec_ok hT hE hrec hI.sim.rel hI.act.t hop hex fun u w' φ' hv hsim=>?_
        refine draw_main hT hE hrec hO l (vals ++ [(d,v)]) H1 seen1 blk (hS' v) h fuel _ φ' _ w' hsz' ?_ hu'
        rw [set_put1 hlt]
        refine inv_loud hO hS hI hah hd hsim hv fun te e' v' hLe heS hp=>?_
        cases hp with
        | off h hv=>exact .off h hv
        | look h hc hq hs =>
         have hz:Nat.beq (Nat.land d.ahead e'.bit) 0 = true:=by
          rw [(hO.ok e' (hO.sub e' heS)).bit,landZero_iff]
          cases hb:d.ahead.testBit e'.idx with
          | false=>rfl
          | true=>rw [hah _ hb] at hLe; cases hLe
         obtain ⟨g1,g2⟩:=again_ok hseen _ hs hz
         exact .look h hc g2 g1
        | make h hc z vf p hb hm hv hp hg h0 =>
         obtain ⟨g1,g2⟩:=hsim.ext.old p (hI.low _ _ hb) hp
         exact .make h hc z vf p hb hm hv g1 (by rw [g2]; exact hg) h0
       ·rw [hop] at hex; simp [execA,write,quiet] at hex
      ·cases h
     ·cases h
    ·rename_i hw
     rw [hag2] at hw
     rw [wanted_ok hI.act.t hg hw,if_neg (by simp)]
     rw [htab] at h
     refine ⟨fun f _=>FR_fn r f,?_⟩
     refine draw_main hT hE hrec hO l (vals ++ [(d,.undef)]) H seen blk (hS' _) h fuel _ φ _ w hsz' ?_ hu'
     rw [set_put1 hlt]
     exact inv_loud hO hS hI hah hd (Sim.refl hI.sim.rel) VRel.undef fun te e' v' hLe heS hp=>hp
    ·cases h
  ·
   intro fuel listed φ a w hsz hI hu
   have hLd:(fun j=>listed.getD j false) d.idx = false:=by
    cases hc:(fun j=>listed.getD j false) d.idx with
    | false=>rfl
    | true =>
     obtain ⟨x,hx,hxi⟩:=hI.sub _ hc
     exact absurd hxi (hEd.new x.1 (List.mem_map.2 ⟨x,hx,rfl⟩))
   let blk0:Nat→Option Pos:=fun j=>match Nat.beq j d.idx with | true=>none | false=>blk j
   have blk0_ne:∀ j,j ≠ d.idx→blk0 j = blk j:=by
    intro j hj
    have:Nat.beq j d.idx = false:=by
     cases hb:Nat.beq j d.idx with
     | false=>rfl
     | true=>exact absurd (Nat.eq_of_beq_eq_true hb) hj
    simp [blk0,this]
   have blk0_same:blk0 d.idx = none:=by simp [blk0]
   have low0:∀ j p,blk0 j = some p→p.toNat < H.nx.toNat:=by
    intro j p hb
    by_cases hj:j = d.idx
    ·rw [hj,blk0_same] at hb; cases hb
    ·rw [blk0_ne j hj] at hb; exact hI.low j p hb
   simp only [drawA] at h
   split at h
   ·rename_i hw
    rcases hcls with hc | hc | hc
    ·rw [hc] at h
     simp only at h
     split at h
     ·rename_i v hq
      rw [forceV_eq,htab] at h
      refine draw_main hT hE hrec hO l (vals ++ [(d,v)]) H _ blk0 (hS' v) h fuel listed φ a w hsz ?_ hu
      exact inv_tell hO hS hI hc2 hI.sim (HLe.refl H) (fun s hs=>List.mem_cons_of_mem _ hs) blk0_ne low0 (fun p hp=>by rw [blk0_same] at hp; cases hp) (.look hw hc hq (by simp))
     ·cases h
    ·rw [hc] at h
     simp only at h
     split at h
     ·rename_i v H1 hwr
      rw [htab] at h
      obtain ⟨z,vf,hm,hv,hH1⟩:=write_make (by rw [← hD.cls]; exact hc) hwr
      subst hH1
      let blk1:Nat→Option Pos:=fun j=>match Nat.beq j d.idx with | true=>some H.nx | false=>blk j
      have blk1_ne:∀ j,j ≠ d.idx→blk1 j = blk j:=by
       intro j hj
       have:Nat.beq j d.idx = false:=by
        cases hb:Nat.beq j d.idx with
        | false=>rfl
        | true=>exact absurd (Nat.eq_of_beq_eq_true hb) hj
       simp [blk1,this]
      have blk1_same:blk1 d.idx = some H.nx:=by simp [blk1]
      have hHr:=hI.sim.rel
      refine draw_main hT hE hrec hO l (vals ++ [(d,v)]) _ seen blk1 (hS' v) h fuel listed φ a w hsz ?_ hu
      refine inv_tell hO hS hI hc2 (hI.sim.trans ⟨Ext.ghost φ H _,hHr.ghost _,Below.refl _ _⟩) (HLe.new hHr _) (fun s hs=>hs) blk1_ne (fun j p hb=>?_) (fun p hp j hj hb=>?_) (.make hw hc z vf H.nx blk1_same hm hv hHr.fresh (AHeap.get_new H _) hI.sim.ext.nx)
      ·simp only [AHeap.new,Pos.toNat_succ]
       by_cases hj:j = d.idx
       ·rw [hj,blk1_same] at hb
        cases hb; omega
       ·rw [blk1_ne j hj] at hb
        have:=hI.low j p hb
        omega
      ·rw [blk1_same] at hp
       cases hp
       exact absurd (hI.low j _ hb) (Nat.lt_irrefl _)
     ·cases h
    ·exact absurd hc hc2
   ·rename_i hw
    rw [htab] at h
    refine draw_main hT hE hrec hO l (vals ++ [(d,.undef)]) H seen blk0 (hS' _) h fuel listed φ a w hsz ?_ hu
    exact inv_tell hO hS hI hc2 hI.sim (HLe.refl H) (fun s hs=>hs) blk0_ne low0 (fun p hp=>by rw [blk0_same] at hp; cases hp) (.off hw rfl)
   ·cases h
theorem unl_replicate (n:Nat) :unl (Array.replicate n false) = n:=by
 unfold unl
 simp
theorem draw_sound (hT:TOk2 T P) (hE:EnvOk P T B E) (hm:P.follows .mixedOrders = true) :∀ rec,SoundRec P T B rec→DrawSound P T B E rec:=by
 intro rec hrec ops id nt r S φ H w aa a e aa' H' hS hH hact h
 obtain ⟨D,hO⟩:=compDraw_ord hS
 refine wpIn_region_any hm ?_
 have hS0:Sim T B φ H w φ H { w with drawn:=w.drawn + 1 }:=⟨Ext.refl _ _,hH.drawn rfl,(Below.refl B w).drew⟩
 have hL:(fun j=>(Array.replicate ops.size false).getD j false) = fun _=>false:=by
  funext j
  rw [Array.getD_eq_getD_getElem?,Array.getElem?_replicate]
  split <;> rfl
 refine draw_main (t0:=aa.t) (ds:=aa.ds) (φ0:=φ) (H0:=H) (w0:=w) hT hE hrec hO S [] H [] (fun _=>none) (by simp) h ops.size (Array.replicate ops.size false) φ a _ (by simp) ?_ (by rw [unl_replicate]; exact Nat.le_refl _)
 rw [hL]
 exact ⟨fun x _ h=>(by cases h),fun i h=>(by cases h),fun x hx=>(by cases hx),hS0,hact,fun l1 e v l2 h=>(by simp at h),fun i j p _ _ _ h=>(by cases h),fun j p h=>(by cases h)⟩
theorem sound (hT:TOk2 T P) (hE:EnvOk P T B E) (hm:P.follows .mixedOrders = true) (n:Nat) :SoundRec P T B (ev E n):=(ev_ok hT hE (draw_sound hT hE hm) n).1
theorem runA_ok (hT:TOk2 T P) (hE:EnvOk P T B E) (hm:P.follows .mixedOrders = true) {n:Nat} {φ:Emb} {H:AHeap} {w:World} (hH:HRel T B φ H w) {f:FuncId} {args:List AVal} {vs:Array Value} (hl:LRel φ args vs.toList) {v:AVal} {H':AHeap} (h:callF E (ev E n) f args H = some (v,H')) :
  Returns P T B φ H w f vs v H':=callF_ok hT.toTOk hE (sound hT hE hm n) hH hl h
end
end Go.Am
end
