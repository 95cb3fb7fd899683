/- Part of the proof: AmMap, AmMap2. -/
import Derived.Test.YtaogphcjlkeakaaGreatDoorAm3
set_option linter.unusedSimpArgs false
set_option linter.unusedVariables false
section
namespace Go.Am
open Go Go.RowKit
section
variable {P:Program} {T:Tys} {B:Nat} {φ:Emb} {H:AHeap} {w:World} {nt:Nat} {t:PT AVal} {a:Act}
def KeyRun (P:Program) (w:World) (kt:TypeId) (u v:Value) (r:Bool) :Prop :=
 (∃ d,P.underlying kt = some d∧((Instr.sameNow d u v = some r)∨((∀ x y,Instr.sameNow d x y = none)∧(Op.equal kt u v).run P w = .ok r w)))∧(r = true ↔ u = v)
theorem strV_iff (s r:List Nat) :((s.map UInt8.ofNat == r.map UInt8.ofNat) = true) ↔ strV s = strV r:=by
 rw [beq_iff_eq]
 exact ⟨fun h=>by unfold strV; rw [h],fun h=>by have:=congrArg ByteArray.toList h; rwa [strV_toList,strV_toList] at this⟩
theorem pair_inv {k q:IntKind} {a b:Int} {u:Value} (h:VRel φ (.agg [.int k a,.int q b]) u) :u = .agg #[.int k a,.int q b]:=by
 obtain ⟨us,rfl,v1,vs1,e1,h1,v2,vs2,e2,h2,e3⟩:=h
 have e3:vs2 = []:=e3
 subst e2 e3
 rw [VRel.int_inv h1,VRel.int_inv h2] at e1
 have:us = #[.int k a,.int q b]:=Array.ext' e1
 rw [this]
theorem eqS_pair {x y:AVal} {r:Bool} (h:eqS H .pair x y = some r) :∃ k q a b a' b',x = .agg [.int k a,.int q b]∧y = .agg [.int k a',.int q b']∧r = (eqI a a' && eqI b b'):=by
 simp only [eqS] at h
 split at h
 ·split at h
  ·rename_i k a q b k' a' q' b' e1 e2
   have e1:=kbeq_eq.1 e1
   have e2:=kbeq_eq.1 e2
   subst e1 e2
   exact ⟨_,_,_,_,_,_,rfl,rfl,(Option.some.inj h).symm⟩
  ·cases h
 ·cases h
theorem keyFit_pair {k:AVal} (h:keyFit .pair k = true) :∃ i j a b,k = .agg [.int i a,.int j b]:=by
 simp only [keyFit] at h
 split at h
 ·exact ⟨_,_,_,_,rfl⟩
 ·cases h
theorem keyRun_ok (hT:TOk T P) (hH:HRel T B φ H w) {kt:TypeId} {q:EqK} (hk:keyKind T kt = some q) {x y:AVal} {u v:Value} (hx:VRel φ x u) (hy:VRel φ y v) {r:Bool} (h:eqS H q x y = some r) :KeyRun P w kt u v r:=by
 unfold keyKind at hk
 split at hk
 ·rename_i k hu
  cases hk
  simp only [eqS] at h
  split at h
  ·split at h
   ·rename_i k1 n1 k2 n2 e
    cases h
    rw [VRel.int_inv hx,VRel.int_inv hy,← kbeq_eq.1 e,eqI_eq]
    exact ⟨⟨_,hT.und hu,.inl (by simp [Instr.sameNow])⟩,by simp⟩
   ·cases h
  ·cases h
 ·rename_i hu
  cases hk
  simp only [eqS] at h
  split at h
  ·cases h
   obtain ⟨e1,h1⟩:=VRel.str_inv hx
   obtain ⟨e2,h2⟩:=VRel.str_inv hy
   rw [e1,e2]
   have hb:∀ s r:List Nat,(strV s == strV r) = (s.map UInt8.ofNat == r.map UInt8.ofNat):=by
    intro s r; rw [beq_toListBytes,strV_toList,strV_toList]
   refine ⟨⟨_,hT.und hu,.inl (by simp [Instr.sameNow,strEq_iff h1 h2,hb])⟩,?_⟩
   rw [strEq_iff h1 h2,strV_iff]
   simp
  ·cases h
 ·rename_i e hu
  split at hk
  ·rename_i n hn
   cases hk
   refine ⟨⟨_,hT.und hu,.inr ⟨fun _ _=>by simp [Instr.sameNow],eqS_ok hT hH hx hy (q:=.ptr) ⟨_,_,hu,hn⟩ h 9999⟩⟩,?_⟩
   simp only [eqS] at h
   split at h
   ·cases h
    have e1:u = .pointer none:=hx
    have e2:v = .pointer none:=hy
    simp [e1,e2]
   ·cases h
    have e1:u = .pointer none:=hx
    obtain ⟨z,hz,e2⟩:=hy
    simp [e1,e2]
   ·cases h
    have e2:v = .pointer none:=hy
    obtain ⟨z,hz,e1⟩:=hx
    simp [e1,e2]
   ·rename_i b o b' o'
    obtain ⟨z,hz,e1⟩:=hx
    obtain ⟨z',hz',e2⟩:=hy
    rw [e1,e2]
    split at h
    ·rename_i hb
     have:=Pos.beq_eq.1 hb
     subst this
     rw [hz] at hz'
     cases hz'
     cases h
     constructor
     ·intro h; rw [Nat.eq_of_beq_eq_true h]
     ·intro h
      simp at h
      rw [h]; exact Nat.beq_refl _
    ·rename_i hb
     split at h
     ·rename_i l1 l2
      cases h
      have hc:=hH.inj b b' z z' (Pos.beq_ne hb) (live_ok hH hz l1).1 (live_ok hH hz' l2).1 hz hz'
      simp [hc]
     ·cases h
   ·cases h
  ·cases hk
 ·rename_i n e hu
  split at hk
  ·rename_i k0 h2 h3 h4
   cases hk
   obtain ⟨k,q,a,b,a',b',rfl,rfl,rfl⟩:=eqS_pair h
   obtain ⟨us,g1,hl⟩:=id hx
   obtain ⟨vs,g2,hm⟩:=id hy
   refine ⟨⟨_,hT.und hu,.inr ⟨fun _ _=>by simp [Instr.sameNow],?_⟩⟩,?_⟩
   ·rw [g1,g2]
    show (Op.equalIn (9999 + 1) kt (.agg us) (.agg vs)).run P w = _
    unfold Tys.size at h4
    cases hg:T.get e with
    | none=>simp [hg] at h4
    | some i =>
     simp only [hg] at h4
     have hc:P.cellsOf e = 1:=by
      simp [Program.cellsOf,hT.info _ _ hg]
      simpa using h4
     rw [run_equalIn_array w 9999 us vs (hT.und hu) (hT.info _ _ hg),hc,List.range_eq_range']
     refine eqItems_run hT hH hl hm (q:=.int) (by simp [eqScal,h2]) h3 9998 (i:=0) ?_
     simp only [List.replicate,List.drop_zero,eqL,eqS,kbeq_eq.2 rfl]
     cases eqI a a' <;> cases eqI b b' <;> rfl
   ·rw [pair_inv hx,pair_inv hy]
    simp [eqI_eq]
  ·cases hk
 ·cases hk
def firstIdx (r:MapEntry→Bool) :List MapEntry→Nat→Option (Nat × Value)
 | [],_=>none
 | e :: es,i=>match r e with
  | true=>some (i,e.val)
  | false=>firstIdx r es (i + 1)
theorem run_findKey {kt:TypeId} {u:Value} {r:MapEntry→Bool} {es:List MapEntry} (h:∀ e ∈ es,KeyRun P w kt u e.key (r e)) {d:TypeDesc} (hd:P.underlying kt = some d) :
  (Instr.findKey kt u es).run P w = .ok (firstIdx r es 0) w:=by
 have now:∀ (es:List MapEntry) (i:Nat),(∀ e ∈ es,Instr.sameNow d u e.key = some (r e))→Instr.findNow d u es i = some (firstIdx r es i):=by
  intro es
  induction es with
  | nil=>intro i _; rfl
  | cons e es ih =>
   intro i he
   have h1:=he e (by simp)
   simp only [Instr.findNow,h1,firstIdx]
   cases r e
   ·exact ih (i + 1) (fun e' h'=>he e' (List.mem_cons_of_mem _ h'))
   ·rfl
 have ask:∀ (es:List MapEntry) (i:Nat),(∀ e ∈ es,(Op.equal kt u e.key).run P w = .ok (r e) w)→(Instr.findAsking kt u es i).run P w = .ok (firstIdx r es i) w:=by
  intro es
  induction es with
  | nil=>intro i _; rfl
  | cons e es ih =>
   intro i he
   have h1:=he e (by simp)
   simp only [Instr.findAsking,Sem.run_bind,h1,firstIdx,Result.andThen_ok]
   cases r e
   ·simpa using ih (i + 1) (fun e' h'=>he e' (List.mem_cons_of_mem _ h'))
   ·rfl
 unfold Instr.findKey
 simp only [Sem.run_bind,run_underlying hd,Result.andThen_ok]
 by_cases hs:∀ x y,Instr.sameNow d x y = none
 ·cases es with
  | nil=>simp [Instr.findNow,firstIdx]
  | cons e es =>
   have hall:∀ e' ∈ e :: es,(Op.equal kt u e'.key).run P w = .ok (r e') w:=by
    intro e' he'
    obtain ⟨⟨d',g1,g2⟩,_⟩:=h e' he'
    rw [hd] at g1
    cases g1
    rcases g2 with g2 | ⟨_,g2⟩
    ·rw [hs] at g2; cases g2
    ·exact g2
   have hn:Instr.findNow d u (e :: es) 0 = none:=by simp [Instr.findNow,hs]
   simp only [hn]
   exact ask _ 0 hall
 ·have hall:∀ e' ∈ es,Instr.sameNow d u e'.key = some (r e'):=by
   intro e' he'
   obtain ⟨⟨d',g1,g2⟩,_⟩:=h e' he'
   rw [hd] at g1
   cases g1
   rcases g2 with g2 | ⟨g2,_⟩
   ·exact g2
   ·exact absurd g2 hs
  rw [now es 0 hall]
  rfl
theorem keyKind_check (hT:TOk T P) {kt:TypeId} {q:EqK} (hk:keyKind T kt = some q) {k:AVal} {u:Value} (hu:VRel φ k u) (hf:keyFit q k = true) (b:Bool) :(Instr.checkKey b 10000 kt u).run P w = .ok () w:=by
 unfold keyKind at hk
 have go:∀ d,P.underlying kt = some d→(∀ m,d ≠ .interface m)→(∀ n e,d ≠ .array n e)→(∀ f,d ≠ .struct f)→(Instr.checkKey b 10000 kt u).run P w = .ok () w:=by
  intro d hd h1 h2 h3
  have hu:∀ n,Instr.checkKey b (n + 1) kt u = Instr.checkKey b (n + 1) kt u:=fun _=>rfl
  rw [show (10000:Nat) = 9999 + 1 from rfl]
  generalize 9999 = n
  unfold Instr.checkKey
  simp only [Sem.run_bind,run_underlying hd,Result.andThen_ok]
  cases d <;> first
   | exact absurd rfl (h1 _)
   | exact absurd rfl (h2 _ _)
   | exact absurd rfl (h3 _)
   | rfl
 split at hk
 ·rename_i hu; exact go _ (hT.und hu) (by simp) (by simp) (by simp)
 ·rename_i hu; exact go _ (hT.und hu) (by simp) (by simp) (by simp)
 ·rename_i hu; exact go _ (hT.und hu) (by simp) (by simp) (by simp)
 ·rename_i n e hu'
  split at hk
  ·rename_i k0 h2 h3 h4
   cases hk
   obtain ⟨i,j,x,y,rfl⟩:=keyFit_pair hf
   obtain ⟨us,rfl,hl⟩:=hu
   have go1:∀ v,(Instr.checkKey b 9999 e v).run P w = .ok () w:=by
    intro v
    rw [show (9999:Nat) = 9998 + 1 from rfl]
    generalize 9998 = n
    unfold Instr.checkKey
    simp only [Sem.run_bind,run_underlying (hT.und h2),Result.andThen_ok]
    rfl
   obtain ⟨v1,p1,_⟩:=part_ok (P:=P) (w:=w) hT h3 hl (i:=0) rfl
   obtain ⟨v2,p2,_⟩:=part_ok (P:=P) (w:=w) hT h3 hl (i:=1) rfl
   have hs:=hT.run_size h4 w
   rw [show (10000:Nat) = 9999 + 1 from rfl]
   generalize 9999 = n at go1
   unfold Instr.checkKey
   simp only [Sem.run_bind,run_underlying (hT.und hu'),Result.andThen_ok]
   simp only [Std.Legacy.Range.forIn_eq_forIn_range',Std.Legacy.Range.size,Nat.sub_zero,Nat.add_sub_cancel,Nat.div_one,List.range'_succ,List.range'_zero,List.forIn_cons,List.forIn_nil]
   simp [hs,p1,p2,go1]
  ·cases hk
 ·cases hk
theorem findKey_all {q:EqK} {k:AVal} :∀ {es:List (AVal × AVal)} {res:Option AVal},findKey H q k es = some res →
  (∀ p ∈ es,∃ r,eqS H q k p.1 = some r) ∧
  (match res with
   | none=>∀ p ∈ es,eqS H q k p.1 = some false
   | some v=>∃ es1 k' es2,es = es1 ++ (k',v) :: es2∧eqS H q k k' = some true∧(∀ p ∈ es1,eqS H q k p.1 = some false)∧∀ p ∈ es2,eqS H q k p.1 = some false)
 | [],res,h=>by
  simp [findKey] at h
  subst h
  exact ⟨by simp,by simp⟩
 | (k',v) :: es,res,h=>by
  simp only [findKey] at h
  split at h
  ·rename_i he
   split at h
   ·rename_i hr
    cases h
    obtain ⟨g1,g2⟩:=findKey_all hr
    simp only at g2
    refine ⟨?_,[],k',es,rfl,he,by simp,g2⟩
    intro p hp
    rcases List.mem_cons.1 hp with rfl | hp
    ·exact ⟨_,he⟩
    ·exact g1 p hp
   ·cases h
  ·rename_i he
   obtain ⟨g1,g2⟩:=findKey_all h
   refine ⟨?_,?_⟩
   ·intro p hp
    rcases List.mem_cons.1 hp with rfl | hp
    ·exact ⟨_,he⟩
    ·exact g1 p hp
   ·cases res with
    | none =>
     simp only at g2 ⊢
     intro p hp
     rcases List.mem_cons.1 hp with rfl | hp
     ·exact he
     ·exact g2 p hp
    | some v' =>
     simp only at g2 ⊢
     obtain ⟨es1,k1,es2,e1,e2,e3,e4⟩:=g2
     refine ⟨(k',v) :: es1,k1,es2,by rw [e1]; rfl,e2,?_,e4⟩
     intro p hp
     rcases List.mem_cons.1 hp with rfl | hp
     ·exact he
     ·exact e3 p hp
  ·cases h
theorem firstIdx_none {r:MapEntry→Bool} :∀ {es:List MapEntry} {i:Nat},(∀ e ∈ es,r e = false)→firstIdx r es i = none
 | [],i,_=>rfl
 | e :: es,i,h=>by
  simp only [firstIdx,h e (by simp)]
  exact firstIdx_none fun e' h'=>h e' (List.mem_cons_of_mem _ h')
theorem firstIdx_some {r:MapEntry→Bool} {e:MapEntry} {E2:List MapEntry} :∀ {E1:List MapEntry} {i:Nat},(∀ e ∈ E1,r e = false)→r e = true→firstIdx r (E1 ++ e :: E2) i = some (i + E1.length,e.val)
 | [],i,_,h=>by simp [firstIdx,h]
 | e' :: E1,i,h,h'=>by
  simp only [List.cons_append,firstIdx,h e' (by simp)]
  rw [firstIdx_some (fun e'' h''=>h e'' (List.mem_cons_of_mem _ h'')) h']
  simp; omega
theorem LRel.mem {l:List AVal} {vs:List Value} (h:LRel φ l vs) {v:Value} (hv:v ∈ vs) :∃ a ∈ l,VRel φ a v:=by
 induction l generalizing vs with
 | nil=>simp only [LRel] at h; subst h; cases hv
 | cons b l ih =>
  obtain ⟨u,us,rfl,h2,h3⟩:=h
  rcases List.mem_cons.1 hv with rfl | hv
  ·exact ⟨b,by simp,h2⟩
  ·obtain ⟨a,ha,hr⟩:=ih h3 hv
   exact ⟨a,List.mem_cons_of_mem _ ha,hr⟩
theorem drop_mid {α β:Type} (f:α→β) (l1 l2:List α) (x:α) :((l1 ++ x :: l2).map f).drop (l1.length + 1) = l2.map f:=by
 rw [← List.map_drop]
 congr 1
 rw [show l1 ++ x :: l2 = (l1 ++ [x]) ++ l2 by simp,List.drop_left' (by simp)]
theorem lookup_find (hT:TOk T P) (hH:HRel T B φ H w) {es:List (AVal × AVal)} {es':Array MapEntry} {clock:Nat} (hm:mapRel φ es es' clock) {kt:TypeId} {q:EqK} (hk:keyKind T kt = some q) {k:AVal} {u:Value} (hu:VRel φ k u)
  {res:Option AVal} (h:findKey H q k es = some res) :
  (match res with
   | none=>(Instr.findKey kt u es'.toList).run P w = .ok none w∧(∀ e ∈ es'.toList,e.key ≠ u)
   | some v=>∃ E1 e0 E2 es1 k' es2 l1 l2,es'.toList = E1 ++ e0 :: E2∧(Instr.findKey kt u es'.toList).run P w = .ok (some (E1.length,e0.val)) w∧VRel φ v e0.val∧e0.key = u ∧
       es = es1 ++ (k',v) :: es2∧eqS H q k k' = some true∧(l1 ++ e0 :: l2).Perm es'.toList∧LRel φ (es1.map (·.1)) (l1.map (·.key))∧LRel φ (es2.map (·.1)) (l2.map (·.key)) ∧
       LRel φ (es1.map (·.2)) (l1.map (·.val))∧LRel φ (es2.map (·.2)) (l2.map (·.val))∧VRel φ k' e0.key):=by
 obtain ⟨hall,hres⟩:=findKey_all h
 obtain ⟨⟨l,p1,p2,p3⟩,hnb,hb,hnk⟩:=hm
 have hpos:∀ (i:Nat) (e:MapEntry),l[i]? = some e→∃ p,es[i]? = some p∧VRel φ p.1 e.key∧VRel φ p.2 e.val:=by
  intro i e he
  have hlen:=p2.length
  simp at hlen
  have hi:i < l.length:=by
   rcases Nat.lt_or_ge i l.length with h | h
   ·exact h
   ·rw [List.getElem?_eq_none h] at he; cases he
  have hi':i < es.length:=by omega
  refine ⟨es[i],by simp [hi'],?_,?_⟩
  ·obtain ⟨v,g1,g2⟩:=p2.get (i:=i) (a:=es[i].1) (by simp [hi'])
   simp [he] at g1
   rw [g1]; exact g2
  ·obtain ⟨v,g1,g2⟩:=p3.get (i:=i) (a:=es[i].2) (by simp [hi'])
   simp [he] at g1
   rw [g1]; exact g2
 have hrun:∀ e ∈ es'.toList,∃ r,KeyRun P w kt u e.key r:=by
  intro e he
  obtain ⟨i,hi⟩:=List.getElem?_of_mem (p1.mem_iff.2 he)
  obtain ⟨p,g1,g2,_⟩:=hpos i e hi
  obtain ⟨r,hr⟩:=hall p (List.mem_of_getElem? g1)
  exact ⟨r,keyRun_ok hT hH hk hu g2 hr⟩
 classical
 let r:MapEntry→Bool:=fun e=>decide (u = e.key)
 have hrun':∀ e ∈ es'.toList,KeyRun P w kt u e.key (r e):=by
  intro e he
  obtain ⟨b,hb⟩:=hrun e he
  have:r e = b:=by
   cases b with
   | true=>exact decide_eq_true (hb.2.1 rfl)
   | false =>
    refine decide_eq_false fun e'=>?_
    have:=hb.2.2 e'
    cases this
  rw [this]; exact hb
 have hd:∃ d,P.underlying kt = some d:=by
  unfold keyKind at hk
  split at hk
  ·exact ⟨_,hT.und ‹_›⟩
  ·exact ⟨_,hT.und ‹_›⟩
  ·exact ⟨_,hT.und ‹_›⟩
  ·exact ⟨_,hT.und ‹_›⟩
  ·cases hk
 obtain ⟨d,hd⟩:=hd
 have hf:=run_findKey hrun' hd
 cases res with
 | none =>
  simp only at hres ⊢
  have hne:∀ e ∈ es'.toList,e.key ≠ u:=by
   intro e he heq
   obtain ⟨i,hi⟩:=List.getElem?_of_mem (p1.mem_iff.2 he)
   obtain ⟨p,g1,g2,_⟩:=hpos i e hi
   have:=hres p (List.mem_of_getElem? g1)
   have hb:=(keyRun_ok hT hH hk hu g2 this).2.2 heq.symm
   cases hb
  refine ⟨?_,hne⟩
  rw [hf,firstIdx_none]
  intro e he
  exact decide_eq_false fun h=>hne e he h.symm
 | some v =>
  simp only at hres ⊢
  obtain ⟨es1,k',es2,e1,e2,e3,e4⟩:=hres
  have hlen:=p2.length
  simp at hlen
  have hi:es1.length < l.length:=by rw [hlen,e1]; simp
  obtain ⟨e0,he0⟩ :∃ e0,l[es1.length]? = some e0:=⟨_,List.getElem?_eq_getElem hi⟩
  obtain ⟨p,g1,g2,g3⟩:=hpos _ e0 he0
  have hp:p = (k',v):=by
   rw [e1] at g1
   simp at g1
   exact g1.symm
  subst hp
  have hkey:e0.key = u:=((keyRun_ok hT hH hk hu g2 e2).2.1 rfl).symm
  have hsplit:l = l.take es1.length ++ e0 :: l.drop (es1.length + 1):=by
   have:l[es1.length] = e0:=by
    rw [List.getElem?_eq_getElem hi] at he0
    exact Option.some.inj he0
   rw [← this]
   simp
  have hmem:e0 ∈ es'.toList:=p1.mem_iff.1 (List.mem_of_getElem? he0)
  obtain ⟨E1,E2,hE⟩:=List.append_of_mem hmem
  have hne1:∀ e ∈ E1,r e = false:=by
   intro e he
   refine decide_eq_false fun h=>?_
   rw [hE] at hnk
   simp only [List.map_append,List.map_cons] at hnk
   have:=(List.nodup_append.1 hnk).2.2 e.key (List.mem_map.2 ⟨e,he,rfl⟩) e0.key (by simp)
   exact this (by rw [← h,hkey])
  refine ⟨E1,e0,E2,es1,k',es2,l.take es1.length,l.drop (es1.length + 1),hE,?_,g3,hkey,e1,e2,by rw [← hsplit]; exact p1,?_,?_,?_,?_,g2⟩
  ·rw [hf,hE,firstIdx_some hne1 (decide_eq_true hkey.symm)]
   simp
  ·have:=p2.take es1.length
   rw [e1] at this
   simpa using this
  ·have:=p2.drop (es1.length + 1)
   rw [e1,drop_mid] at this
   simpa using this
  ·have:=p3.take es1.length
   rw [e1] at this
   simpa using this
  ·have:=p3.drop (es1.length + 1)
   rw [e1,drop_mid] at this
   simpa using this
end
end Go.Am
end

section
namespace Go.Am
open Go Go.RowKit
section
variable {P:Program} {T:Tys} {B:Nat} {φ:Emb} {H:AHeap} {w:World} {nt:Nat} {t:PT AVal} {a:Act}
theorem mapRel_nil (φ:Emb) :mapRel φ [] #[] 0:=⟨⟨[],by simp,rfl,rfl⟩,by simp,by simp,by simp⟩
def lookRes (z:AVal) (ok:Bool) :Option AVal→AVal
 | some v=>match ok with | true=>.tup [v,.bool true] | false=>v
 | none=>match ok with | true=>.tup [z,.bool false] | false=>z
theorem lookup_run (hT:TOk T P) {ty kt e:TypeId} (hs:T.und ty = some (.map kt e)) {q:EqK} (hk:keyKind T kt = some q) {z:AVal} (hz:zeroOf T e = some z)
  {kk:AVal} {u:Value} (hku:VRel φ kk u) (hfit:keyFit q kk = true) {m:Value} {es':Array MapEntry} (hes:(m = .map none∧es' = #[])∨(∃ r clock,m = .map (some r)∧w.heap[r]? = some (.map es' clock))) {ok:Bool}
  {f:Option (Nat × Value)} (hf:(Instr.findKey kt u es'.toList).run P w = .ok f w) {res:Option AVal}
  (hres:match res with | none=>f = none | some v=>∃ i x,f = some (i,x)∧VRel φ v x) :
  ∃ r,(Instr.lookup ty m u ok).run P w = .ok r w∧VRel φ (lookRes z ok res) r:=by
 obtain ⟨zv,hzr,hzc⟩:=hT.run_zero hz w
 rcases hes with ⟨rfl,rfl⟩ | ⟨r,clock,rfl,hg⟩
 ·cases res with
  | none =>
   simp only at hres
   subst hres
   cases ok
   ·exact ⟨zv,by simp [Instr.lookup,hT.run_und hs,keyKind_check hT hk hku hfit,hf,hzr],ofConst_ok hzc⟩
   ·exact ⟨.tuple #[zv,.bool false],by simp [Instr.lookup,hT.run_und hs,keyKind_check hT hk hku hfit,hf,hzr],_,rfl,_,_,rfl,ofConst_ok hzc,_,_,rfl,rfl,rfl⟩
  | some v =>
   obtain ⟨i,x,rfl,hv⟩:=hres
   cases ok
   ·exact ⟨x,by simp [Instr.lookup,hT.run_und hs,keyKind_check hT hk hku hfit,hf],hv⟩
   ·exact ⟨.tuple #[x,.bool true],by simp [Instr.lookup,hT.run_und hs,keyKind_check hT hk hku hfit,hf],_,rfl,_,_,rfl,hv,_,_,rfl,rfl,rfl⟩
 ·have hg':=run_getObj (P:=P) hg (by simp)
  cases res with
  | none =>
   simp only at hres
   subst hres
   cases ok
   ·exact ⟨zv,by simp [Instr.lookup,hT.run_und hs,keyKind_check hT hk hku hfit,hg',hf,hzr],ofConst_ok hzc⟩
   ·exact ⟨.tuple #[zv,.bool false],by simp [Instr.lookup,hT.run_und hs,keyKind_check hT hk hku hfit,hg',hf,hzr],_,rfl,_,_,rfl,ofConst_ok hzc,_,_,rfl,rfl,rfl⟩
  | some v =>
   obtain ⟨i,x,rfl,hv⟩:=hres
   cases ok
   ·exact ⟨x,by simp [Instr.lookup,hT.run_und hs,keyKind_check hT hk hku hfit,hg',hf],hv⟩
   ·exact ⟨.tuple #[x,.bool true],by simp [Instr.lookup,hT.run_und hs,keyKind_check hT hk hku hfit,hg',hf],_,rfl,_,_,rfl,hv,_,_,rfl,rfl,rfl⟩
theorem quiet_lookup (hT:TOk T P) (hH:HRel T B φ H w) (ht:TRel φ nt t a.tmps) {o:Oper} {ty kt e:TypeId} {x k:Operand} {ok:Bool} (ho:o.op = .lookup ty x k ok) {ax ak:AOpnd} (hx:opnd T x = some ax) (hkx:opnd T k = some ak)
  (hs:T.und ty = some (.map kt e)) {q:EqK} (hk:keyKind T kt = some q) {z:AVal} (hz:zeroOf T e = some z)
  {v:AVal} (h:quiet t H (.lookup q z ax ak ok) = some v) :∃ u,(execOp a.eval o).run P w = .ok (.value u) w∧VRel φ v u:=by
 simp only [quiet] at h
 cases hfit:keyFit q (ak.ev t) with
 | false=>rw [hfit] at h; cases h
 | true =>
 rw [hfit] at h
 simp only at h
 have hxv:=opnd_ok hH ht hx
 have hkv:=opnd_ok hH ht hkx
 have fin:∀ {r:Option AVal},(∃ u,(Instr.lookup ty (a.eval x) (a.eval k) ok).run P w = .ok u w∧VRel φ (lookRes z ok r) u)→lookRes z ok r = v →
   ∃ u,(execOp a.eval o).run P w = .ok (.value u) w∧VRel φ v u:=by
  intro r ⟨u,h1,h2⟩ h3
  exact ⟨u,by simp [execOp,ho,h1],h3 ▸ h2⟩
 generalize ax.ev t = X at h hxv
 have main:∀ r,(match X with
   | .mnil=>some none
   | .map b=>match entries (PT.get b H.t) with
    | some es=>findKey H q (ak.ev t) es
    | _=>none
   | _=>none) = some r→∃ u,(Instr.lookup ty (a.eval x) (a.eval k) ok).run P w = .ok u w∧VRel φ (lookRes z ok r) u:=by
  intro r e1
  split at e1
  ·cases e1
   have he:a.eval x = .map none:=hxv
   exact lookup_run hT hs hk hz hkv hfit (es':=#[]) (f:=none) (res:=none) (.inl ⟨he,rfl⟩) (lookup_find (q:=q) hT hH (mapRel_nil φ) hk hkv (res:=none) rfl).1 rfl
  ·rename_i b
   split at e1
   ·rename_i es hg
    obtain ⟨y,hy,he⟩:=hxv
    obtain ⟨es',clock,g1,g2⟩:=entries_ok hH hy hg
    cases r with
    | none=>exact lookup_run hT hs hk hz hkv hfit (es':=es') (f:=none) (res:=none) (.inr ⟨_,_,he,g1⟩) (lookup_find hT hH g2 hk hkv e1).1 rfl
    | some v0 =>
     obtain ⟨E1,e0,E2,es1,k',es2,l1,l2,i1,i2,i3,i4,i5⟩:=lookup_find hT hH g2 hk hkv e1
     exact lookup_run hT hs hk hz hkv hfit (es':=es') (res:=some v0) (.inr ⟨_,_,he,g1⟩) i2 ⟨_,_,rfl,i3⟩
   ·cases e1
  ·cases e1
 split at h
 ·rename_i v0 e1
  exact fin (main _ e1) (by simp only [lookRes]; exact Option.some.inj h)
 ·rename_i e1
  exact fin (main _ e1) (by simp only [lookRes]; exact Option.some.inj h)
 ·cases h
end
end Go.Am
end
