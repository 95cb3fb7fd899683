/- Part of the proof: AmP0, AmP1, AmGr1, AmGr2, AmGr3, AmGr4, AmPair. -/
import Derived.Test.YtaogphcjlkeakaaGreatDoorNet2
import Derived.Test.YtaogphcjlkeakaaGreatDoorAm27
import Derived.Test.YtaogphcjlkeakaaGreatDoorAm28
import Derived.Test.YtaogphcjlkeakaaGreatDoorAm25
set_option linter.unusedSimpArgs false
set_option linter.unusedVariables false
section
namespace Go.Am
open Go Go.RowKit
abbrev RisZ (l:List Int) :Prop:=l.Pairwise (· < ·)
theorem putT_mem {c:Trp} :∀ {m:List Trp} {x:Trp},(m.map keyT).Nodup→(x ∈ putT c m ↔ x = c∨(x ∈ m∧keyT x ≠ keyT c))
 | [],x,_=>by simp [putT]
 | y :: m,x,h=>by
  simp only [List.map_cons,List.nodup_cons] at h
  simp only [putT]
  cases he:(eqI c.1 y.1 && eqI c.2.1 y.2.1) with
  | true =>
   have hk:=(eqT_iff c y).1 he
   simp only [List.mem_cons]
   constructor
   ·rintro (rfl | h3)
    ·exact .inl rfl
    ·exact .inr ⟨.inr h3,fun e=>h.1 (by rw [← hk,← e]; exact List.mem_map.2 ⟨x,h3,rfl⟩)⟩
   ·rintro (rfl | ⟨rfl | h3,h4⟩)
    ·exact .inl rfl
    ·exact absurd hk.symm h4
    ·exact .inr h3
  | false =>
   have hk:keyT y ≠ keyT c:=fun e=>by rw [(eqT_iff c y).2 e.symm] at he; cases he
   simp only [List.mem_cons,putT_mem h.2]
   constructor
   ·rintro (rfl | rfl | ⟨h3,h4⟩)
    ·exact .inr ⟨.inl rfl,hk⟩
    ·exact .inl rfl
    ·exact .inr ⟨.inr h3,h4⟩
   ·rintro (rfl | ⟨rfl | h3,h4⟩)
    ·exact .inr (.inl rfl)
    ·exact .inl rfl
    ·exact .inr (.inr ⟨h3,h4⟩)
def adjT (v:Int) :List Trp→List Mrk
 | []=>[]
 | t :: l=>match eqI t.1 v with
  | true=>(t.2.1,t.2.2) :: adjT v l
  | false=>match eqI t.2.1 v with
   | true=>(t.1,t.2.2) :: adjT v l
   | false=>adjT v l
def normK (v x:Int) :Int × Int:=if v < x then (v,x) else (x,v)
theorem adjT_mem {v x:Int} {g:Bool} :∀ {l:List Trp},(∀ t ∈ l,t.1 < t.2.1)→((x,g) ∈ adjT v l ↔ x ≠ v∧∃ t ∈ l,keyT t = normK v x∧t.2.2 = g)
 | [],_=>by simp [adjT]
 | t :: l,h=>by
  have ih:=adjT_mem (v:=v) (x:=x) (g:=g) (l:=l) fun y hy=>h y (by simp [hy])
  have ht:=h t (by simp)
  simp only [adjT]
  rw [eqI_dec,eqI_dec]
  obtain ⟨a,b,f⟩:=t
  simp only at ht ⊢
  have hk:x ≠ v→(keyT (a,b,f) = normK v x ↔ (a = v∧b = x)∨(b = v∧a = x)):=by
   intro hx
   unfold keyT normK
   by_cases hvx:v < x
   ·simp only [hvx,if_true,Prod.mk.injEq]; omega
   ·simp only [hvx,if_false,Prod.mk.injEq]; omega
  have key:(x,g) ∈ adjT v ((a,b,f) :: l) ↔ (x ≠ v∧((a = v∧b = x)∨(b = v∧a = x))∧f = g)∨(x,g) ∈ adjT v l:=by
   simp only [adjT]
   rw [eqI_dec,eqI_dec]
   by_cases h1:a = v
   ·simp only [h1,decide_true,List.mem_cons,Prod.mk.injEq]
    constructor
    ·rintro (⟨h2,h3⟩ | h)
     ·exact .inl ⟨by omega,.inl ⟨trivial,h2.symm⟩,h3.symm⟩
     ·exact .inr h
    ·rintro (⟨h2,h3 | h3,h4⟩ | h)
     ·exact .inl ⟨h3.2.symm,h4.symm⟩
     ·omega
     ·exact .inr h
   ·simp only [h1,decide_false]
    by_cases h2:b = v
    ·simp only [h2,decide_true,List.mem_cons,Prod.mk.injEq]
     constructor
     ·rintro (⟨h3,h4⟩ | h)
      ·exact .inl ⟨by omega,.inr ⟨trivial,h3.symm⟩,h4.symm⟩
      ·exact .inr h
     ·rintro (⟨h3,h4 | h4,h5⟩ | h)
      ·exact absurd h4.1 (by simp)
      ·exact .inl ⟨h4.2.symm,h5.symm⟩
      ·exact .inr h
    ·simp only [h2,decide_false]
     constructor
     ·exact .inr
     ·rintro (⟨h3,h4 | h4,h5⟩ | h)
      ·exact absurd h4.1 (by simp)
      ·exact absurd h4.1 (by simp)
      ·exact h
  simp only [adjT] at key
  rw [eqI_dec,eqI_dec] at key
  rw [key,ih]
  simp only [List.mem_cons,exists_eq_or_imp]
  constructor
  ·rintro (⟨h1,h2,h3⟩ | ⟨h1,h2⟩)
   ·exact ⟨h1,.inl ⟨(hk h1).2 h2,h3⟩⟩
   ·exact ⟨h1,.inr h2⟩
  ·rintro ⟨h1,⟨h2,h3⟩ | h2⟩
   ·exact .inl ⟨h1,(hk h1).1 h2,h3⟩
   ·exact .inr ⟨h1,h2⟩
theorem normT_lt {t:Trp} (h:eqI t.1 t.2.1 = false) :(normT t).1 < (normT t).2.1:=by
 rw [eqI_eq] at h
 have h:t.1 ≠ t.2.1:=by simpa using h
 show minI t.1 t.2.1 < maxI t.1 t.2.1
 unfold minI maxI
 rw [ltI_eq,ltI_eq]
 by_cases h1:t.2.1 < t.1
 ·have h2:¬ t.1 < t.2.1:=by omega
  simp only [h1,h2,decide_true,decide_false]
 ·have h2:t.1 < t.2.1:=by omega
  simp only [h1,h2,decide_true,decide_false]
theorem compactFrom_ris:∀ (l:List Int) (a:Int),(a :: l).Pairwise (·≤·)→RisZ (compactFrom a l)∧∀ x,x ∈ compactFrom a l ↔ x = a∨x ∈ l
 | [],a,_=>by simp [compactFrom]
 | b :: l,a,h=>by
  obtain ⟨h1,h2⟩:=List.pairwise_cons.1 h
  obtain ⟨h3,h4⟩:=List.pairwise_cons.1 h2
  simp only [compactFrom]
  rw [eqI_dec]
  by_cases e:b = a
  ·subst e
   simp only [decide_true]
   obtain ⟨g1,g2⟩:=compactFrom_ris l b h2
   refine ⟨g1,fun x=>?_⟩
   rw [g2]
   simp only [List.mem_cons]
   constructor
   ·rintro (h | h)
    ·exact .inl h
    ·exact .inr (.inr h)
   ·rintro (h | h | h)
    ·exact .inl h
    ·exact .inl h
    ·exact .inr h
  ·simp only [e,decide_false]
   obtain ⟨g1,g2⟩:=compactFrom_ris l b h2
   refine ⟨List.pairwise_cons.2 ⟨fun x hx=>?_,g1⟩,fun x=>?_⟩
   ·have hab:=h1 b (by simp)
    rcases (g2 x).1 hx with rfl | hx
    ·omega
    ·have:=h3 x hx; omega
   ·simp only [List.mem_cons,g2]
theorem compactZ_ok {l:List Int} (h:l.Pairwise (·≤·)) :RisZ (compactZ l)∧∀ x,x ∈ compactZ l ↔ x ∈ l:=by
 cases l with
 | nil=>simp [compactZ]
 | cons a l =>
  obtain ⟨h1,h2⟩:=compactFrom_ris l a h
  exact ⟨h1,fun x=>by simp only [compactZ,h2,List.mem_cons]⟩
theorem oldM_mem {v:Int} {ms:List Mrk} {x:Int} :∀ {l:List Int},x ∈ oldM v ms l ↔ x ∈ l∧x ∉ ms.map (·.1)∧x ≠ v
 | []=>by simp [oldM]
 | y :: l=>by
  have ih:=oldM_mem (v:=v) (ms:=ms) (x:=x) (l:=l)
  simp only [oldM]
  rw [eqI_dec]
  cases hh:hasM y ms with
  | true =>
   have:=(hasM_iff y ms).1 hh
   simp only [ih,List.mem_cons]
   constructor
   ·rintro ⟨h,h'⟩; exact ⟨.inr h,h'⟩
   ·rintro ⟨rfl | h,h'⟩
    ·exact absurd this h'.1
    ·exact ⟨h,h'⟩
  | false =>
   have hn:y ∉ ms.map (·.1):=fun h=>by rw [(hasM_iff y ms).2 h] at hh; cases hh
   by_cases e:y = v
   ·simp only [e,decide_true,ih,List.mem_cons]
    constructor
    ·rintro ⟨h,h'⟩; exact ⟨.inr h,h'⟩
    ·rintro ⟨h | h,h'⟩
     ·exact absurd h h'.2
     ·exact ⟨h,h'⟩
   ·simp only [e,decide_false,List.mem_cons,ih]
    constructor
    ·rintro (rfl | ⟨h,h'⟩)
     ·exact ⟨.inl rfl,hn,e⟩
     ·exact ⟨.inr h,h'⟩
    ·rintro ⟨rfl | h,h'⟩
     ·exact .inl rfl
     ·exact .inr ⟨h,h'⟩
theorem newM_mem {x:Int} :∀ {l:List Mrk},x ∈ newM l ↔ (x,false) ∈ l
 | []=>by simp [newM]
 | (u,g) :: l=>by
  have ih:=newM_mem (x:=x) (l:=l)
  cases g <;> simp [newM,ih]
end Go.Am
end

section
namespace Go.Am
open Go Go.RowKit
def dropT (t:Trp) :List Trp→List Trp
 | []=>[]
 | x :: l=>match eqI t.1 x.1 && eqI t.2.1 x.2.1 with
  | true=>l
  | false=>x :: dropT t l
theorem dropT_sub (t:Trp) :∀ m:List Trp,(dropT t m).Sublist m
 | []=>List.Sublist.refl _
 | x :: m=>by
  simp only [dropT]
  cases (eqI t.1 x.1 && eqI t.2.1 x.2.1) with
  | true=>exact List.sublist_cons_self _ _
  | false=>exact (dropT_sub t m).cons_cons _
theorem dropT_mem {c:Trp} :∀ {m:List Trp} {x:Trp},(m.map keyT).Nodup→(x ∈ dropT c m ↔ x ∈ m∧keyT x ≠ keyT c)
 | [],x,_=>by simp [dropT]
 | y :: m,x,h=>by
  simp only [List.map_cons,List.nodup_cons] at h
  simp only [dropT]
  cases he:(eqI c.1 y.1 && eqI c.2.1 y.2.1) with
  | true =>
   have hk:=(eqT_iff c y).1 he
   simp only [List.mem_cons]
   constructor
   ·intro h3
    exact ⟨.inr h3,fun e=>h.1 (by rw [← hk,← e]; exact List.mem_map.2 ⟨x,h3,rfl⟩)⟩
   ·rintro ⟨rfl | h3,h4⟩
    ·exact absurd hk.symm h4
    ·exact h3
  | false =>
   have hk:keyT y ≠ keyT c:=fun e=>by rw [(eqT_iff c y).2 e.symm] at he; cases he
   simp only [List.mem_cons,dropT_mem h.2]
   constructor
   ·rintro (rfl | ⟨h3,h4⟩)
    ·exact ⟨.inl rfl,hk⟩
    ·exact ⟨.inr h3,h4⟩
   ·rintro ⟨rfl | h3,h4⟩
    ·exact .inl rfl
    ·exact .inr ⟨h3,h4⟩
theorem dropT_nodup {c:Trp} {m:List Trp} (h:(m.map keyT).Nodup) :((dropT c m).map keyT).Nodup:=((dropT_sub c m).map keyT).nodup h
theorem dropKey_ent {H:AHeap} {t:Trp} :∀ {m:List Trp},(m.map keyT).Nodup→dropKey H .pair (entT t).1 (m.map entT) = some ((dropT t m).map entT)
 | [],_=>rfl
 | x :: m,h=>by
  simp only [List.map_cons,List.nodup_cons] at h
  simp only [List.map_cons,dropKey,dropT]
  rw [eqS_ent]
  cases hb:(eqI t.1 x.1 && eqI t.2.1 x.2.1) with
  | true =>
   have hk:=(eqT_iff t x).1 hb
   simp only
   rw [findKey_none (fun y hy e=>h.1 (by rw [← hk,e]; exact List.mem_map.2 ⟨y,hy,rfl⟩))]
  | false =>
   simp only
   rw [dropKey_ent h.2]
   rfl
def chT (m:List Trp) (t:Trp) :List Trp:=match eqI t.1 t.2.1 with
 | true=>m
 | false=>match t.2.2 with
  | true=>dropT (normT t) m
  | false=>putT (normT (t.1,t.2.1,true)) m
def chAll (m:List Trp) (ts:List Trp) :List Trp:=ts.foldl chT m
theorem chAll_snoc (m ts:List Trp) (t:Trp) :chAll m (ts ++ [t]) = chT (chAll m ts) t:=by simp [chAll,List.foldl_append]
structure Edges (n:Nat) (m:List Trp) :Prop where
 nd:(m.map keyT).Nodup
 lt:∀ t ∈ m,0≤t.1∧t.1 < t.2.1∧t.2.1 < n
 fl:∀ t ∈ m,t.2.2 = true
def Within (n:Nat) (t:Trp) :Prop:=0≤t.1∧t.1 < n∧0≤t.2.1∧t.2.1 < n
theorem norm_within {n:Nat} {t:Trp} (h:Within n t) (he:eqI t.1 t.2.1 = false) :0≤(normT t).1∧(normT t).1 < (normT t).2.1∧(normT t).2.1 < n:=by
 have h1:=normT_lt he
 refine ⟨?_,h1,?_⟩
 ·show 0≤minI _ _
  unfold minI
  obtain ⟨_,_,_,_⟩:=h
  split <;> omega
 ·show maxI _ _ < _
  unfold maxI
  obtain ⟨_,_,_,_⟩:=h
  split <;> omega
theorem Edges.put {n:Nat} {m:List Trp} (h:Edges n m) {t:Trp} (ht:Within n t) (he:eqI t.1 t.2.1 = false) :Edges n (putT (normT (t.1,t.2.1,true)) m):=by
 refine ⟨putT_nodup h.nd,fun x hx=>?_,fun x hx=>?_⟩
 ·rcases (putT_mem h.nd).1 hx with rfl | ⟨hx,_⟩
  ·exact norm_within (t:=(t.1,t.2.1,true)) ht he
  ·exact h.lt x hx
 ·rcases (putT_mem h.nd).1 hx with rfl | ⟨hx,_⟩
  ·rfl
  ·exact h.fl x hx
theorem Edges.drop {n:Nat} {m:List Trp} (h:Edges n m) (t:Trp) :Edges n (dropT t m) :=
 ⟨dropT_nodup h.nd,fun x hx=>h.lt x ((dropT_sub t m).subset hx),fun x hx=>h.fl x ((dropT_sub t m).subset hx)⟩
theorem Edges.ch {n:Nat} {m:List Trp} (h:Edges n m) {t:Trp} (ht:Within n t) :Edges n (chT m t):=by
 unfold chT
 cases he:eqI t.1 t.2.1 with
 | true=>exact h
 | false =>
  cases t.2.2 with
  | true=>exact h.drop _
  | false=>exact h.put ht he
theorem Edges.all {n:Nat} {m:List Trp} (h:Edges n m) {ts:List Trp} (ht:∀ t ∈ ts,Within n t) :Edges n (chAll m ts):=by
 induction ts generalizing m with
 | nil=>exact h
 | cons t ts ih=>exact ih (h.ch (ht t (by simp))) fun x hx=>ht x (by simp [hx])
theorem Edges.perm {n:Nat} {m m':List Trp} (h:Edges n m) (hp:m.Perm m') :Edges n m' :=
 ⟨((hp.map keyT).nodup_iff).1 h.nd,fun t ht=>h.lt t (hp.mem_iff.2 ht),fun t ht=>h.fl t (hp.mem_iff.2 ht)⟩
theorem chAll_keys {n:Nat} {m:List Trp} (hm:Edges n m) (k:Int × Int) :∀ (i:Nat) {ts:List Trp},i≤ts.length→(∀ t ∈ ts,Within n t) →
  (k ∈ (chAll m (ts.take i)).map keyT ↔ (∃ t ∈ lastT [] (ts.take i),keyT t = k∧t.2.2 = false)∨((∀ t ∈ lastT [] (ts.take i),keyT t ≠ k)∧k ∈ m.map keyT))
 | 0,ts,_,_=>by simp [chAll,lastT]
 | i + 1,ts,hi,hw=>by
  have ih:=chAll_keys hm k i (ts:=ts) (by omega) hw
  rw [List.take_succ_eq_append_getElem (by omega),chAll_snoc,lastT_snoc]
  have hE:Edges n (chAll m (ts.take i)):=hm.all fun t ht=>hw t (List.mem_of_mem_take ht)
  have hL:((lastT [] (ts.take i)).map keyT).Nodup:=lastT_nodup (by simp)
  generalize chAll m (ts.take i) = S at ih hE
  generalize lastT [] (ts.take i) = Lw at ih hL
  generalize ts[i] = c
  unfold chT
  cases he:eqI c.1 c.2.1 with
  | true=>exact ih
  | false =>
   simp only
   have hw1:(∃ t ∈ putT (normT c) Lw,keyT t = k∧t.2.2 = false) ↔ (keyT (normT c) = k∧c.2.2 = false)∨(k ≠ keyT (normT c)∧∃ t ∈ Lw,keyT t = k∧t.2.2 = false):=by
    constructor
    ·rintro ⟨t,ht,rfl,h2⟩
     rcases (putT_mem hL).1 ht with rfl | ⟨ht,hne⟩
     ·exact .inl ⟨rfl,h2⟩
     ·exact .inr ⟨hne,t,ht,rfl,h2⟩
    ·rintro (⟨h1,h2⟩ | ⟨hne,t,ht,h1,h2⟩)
     ·exact ⟨_,(putT_mem hL).2 (.inl rfl),h1,h2⟩
     ·exact ⟨t,(putT_mem hL).2 (.inr ⟨ht,by rw [h1]; exact hne⟩),h1,h2⟩
   have hw2:(∀ t ∈ putT (normT c) Lw,keyT t ≠ k) ↔ keyT (normT c) ≠ k∧∀ t ∈ Lw,keyT t ≠ k:=by
    constructor
    ·intro h
     have h1:keyT (normT c) ≠ k:=h _ ((putT_mem hL).2 (.inl rfl))
     refine ⟨h1,fun t ht e=>h t ((putT_mem hL).2 (.inr ⟨ht,fun e2=>h1 (by rw [← e2,e])⟩)) e⟩
    ·rintro ⟨h1,h2⟩ t ht
     rcases (putT_mem hL).1 ht with rfl | ⟨ht,_⟩
     ·exact h1
     ·exact h2 t ht
   rw [hw1,hw2]
   cases hg:c.2.2 with
   | true =>
    simp only [List.mem_map,dropT_mem hE.nd]
    simp only [List.mem_map] at ih
    constructor
    ·rintro ⟨x,⟨hx,hne⟩,rfl⟩
     rcases ih.1 ⟨x,hx,rfl⟩ with h | ⟨h1,h2⟩
     ·exact .inl (.inr ⟨hne,h⟩)
     ·exact .inr ⟨⟨fun e=>hne e.symm,h1⟩,h2⟩
    ·rintro ((⟨_,h⟩ | ⟨hne,h⟩) | ⟨⟨h1,h2⟩,h3⟩)
     ·cases h
     ·obtain ⟨x,hx,rfl⟩:=ih.2 (.inl h)
      exact ⟨x,⟨hx,hne⟩,rfl⟩
     ·obtain ⟨x,hx,rfl⟩:=ih.2 (.inr ⟨h2,h3⟩)
      exact ⟨x,⟨hx,fun e=>h1 e.symm⟩,rfl⟩
   | false =>
    have hk:keyT (normT (c.1,c.2.1,true)) = keyT (normT c):=rfl
    simp only [List.mem_map,putT_mem hE.nd]
    simp only [List.mem_map] at ih
    rw [hk]
    constructor
    ·rintro ⟨x,rfl | ⟨hx,hne⟩,rfl⟩
     ·exact .inl (.inl ⟨rfl,trivial⟩)
     ·rcases ih.1 ⟨x,hx,rfl⟩ with h | ⟨h1,h2⟩
      ·exact .inl (.inr ⟨hne,h⟩)
      ·exact .inr ⟨⟨fun e=>hne e.symm,h1⟩,h2⟩
    ·rintro ((⟨h,_⟩ | ⟨hne,h⟩) | ⟨⟨h1,h2⟩,h3⟩)
     ·exact ⟨_,.inl rfl,h⟩
     ·obtain ⟨x,hx,rfl⟩:=ih.2 (.inl h)
      exact ⟨x,.inr ⟨hx,hne⟩,rfl⟩
     ·obtain ⟨x,hx,rfl⟩:=ih.2 (.inr ⟨h2,h3⟩)
      exact ⟨x,.inr ⟨hx,fun e=>h1 e.symm⟩,rfl⟩
theorem lastT_self:∀ (l m:List Trp),(∀ t ∈ l,t.1 < t.2.1)→((m ++ l).map keyT).Nodup→lastT m l = m ++ l
 | [],m,_,_=>by simp [lastT]
 | t :: l,m,h,hn=>by
  have ht:=h t (by simp)
  have e1:eqI t.1 t.2.1 = false:=by rw [eqI_dec]; simp; omega
  have e2:normT t = t:=by
   obtain ⟨a,b,f⟩:=t
   simp only at ht
   unfold normT minI maxI
   rw [ltI_eq,ltI_eq]
   have h1:¬ b < a:=by omega
   simp [h1,ht]
  have e3:∀ m:List Trp,keyT t ∉ m.map keyT→putT t m = m ++ [t]:=by
   intro m
   induction m with
   | nil=>intro _; rfl
   | cons x m ih =>
    intro hx
    simp only [List.map_cons,List.mem_cons,not_or] at hx
    simp only [putT]
    cases hb:(eqI t.1 x.1 && eqI t.2.1 x.2.1) with
    | true=>exact absurd ((eqT_iff t x).1 hb) hx.1
    | false=>simp only [List.cons_append]; rw [ih hx.2]
  have hnt:keyT t ∉ m.map keyT:=by
   rw [List.map_append,List.nodup_append] at hn
   intro hm
   exact hn.2.2 _ hm _ (by simp) rfl
  simp only [lastT,e1,e2]
  rw [e3 m hnt,lastT_self l (m ++ [t]) (fun x hx=>h x (by simp [hx])) (by simpa using hn)]
  simp
theorem lastT_lt:∀ (i:Nat) {ts:List Trp},i≤ts.length→∀ t ∈ lastT [] (ts.take i),t.1 < t.2.1
 | 0,ts,_,t,h=>by simp [lastT] at h
 | i + 1,ts,hi,t,h=>by
  rw [List.take_succ_eq_append_getElem (by omega),lastT_snoc] at h
  cases he:eqI ts[i].1 ts[i].2.1 with
  | true=>rw [he] at h; exact lastT_lt i (by omega) t h
  | false =>
   rw [he] at h
   rcases (putT_mem (lastT_nodup (by simp))).1 h with rfl | ⟨h,_⟩
   ·exact normT_lt he
   ·exact lastT_lt i (by omega) t h
theorem netT_lt (ts:List Trp) :∀ t ∈ netT ts,t.1 < t.2.1:=fun t ht=>by
 have:=lastT_lt ts.length (ts:=ts) (Nat.le_refl _) t (by rw [List.take_length]; exact (sortT_perm _).mem_iff.1 ht)
 exact this
theorem netT_nodup (ts:List Trp) :((netT ts).map keyT).Nodup:=((sortT_perm _).map keyT).nodup_iff.2 (lastT_nodup (by simp))
theorem netT_sorted (ts:List Trp) :(netT ts).Pairwise (fun a b=>LtK (keyT a) (keyT b)):=sortT_sorted (lastT_nodup (by simp))
theorem last_net (ts:List Trp) :lastT [] (netT ts) = netT ts:=lastT_self _ [] (netT_lt ts) (by simpa using netT_nodup ts)
theorem netT_len (ts:List Trp) :(netT ts).length≤ts.length:=by
 have hp:∀ (t:Trp) (m:List Trp),(putT t m).length≤m.length + 1:=by
  intro t m
  induction m with
  | nil=>simp [putT]
  | cons y m ih =>
   simp only [putT]
   split
   ·simp
   ·simp only [List.length_cons]; omega
 have hl:∀ (l m:List Trp),(lastT m l).length≤m.length + l.length:=by
  intro l
  induction l with
  | nil=>intro m; simp [lastT]
  | cons t l ih =>
   intro m
   simp only [lastT,List.length_cons]
   split
   ·have:=ih m; omega
   ·have:=ih (putT (normT t) m)
    have:=hp (normT t) m
    omega
 have h1:=hl ts []
 have h2:=(sortT_perm (lastT [] ts)).length_eq
 show (sortT (lastT [] ts)).length≤_
 simp only [List.length_nil] at h1
 omega
theorem netT_netT (ts:List Trp) :netT (netT ts) = netT ts:=by
 show sortT (lastT [] (netT ts)) = netT ts
 rw [last_net]
 exact List.Perm.eq_of_pairwise (le:=fun a b=>LtK (keyT a) (keyT b)) (fun x y _ _ g1 g2=>absurd (g1.trans g2) (LtK.irrefl _)) (sortT_sorted (netT_nodup ts)) (netT_sorted ts) (sortT_perm _)
theorem lastT_within {n:Nat} :∀ (i:Nat) {ts:List Trp},i≤ts.length→(∀ t ∈ ts,Within n t)→∀ t ∈ lastT [] (ts.take i),Within n t
 | 0,ts,_,_,t,h=>by simp [lastT] at h
 | i + 1,ts,hi,hw,t,h=>by
  rw [List.take_succ_eq_append_getElem (by omega),lastT_snoc] at h
  cases he:eqI ts[i].1 ts[i].2.1 with
  | true=>rw [he] at h; exact lastT_within i (by omega) hw t h
  | false =>
   rw [he] at h
   rcases (putT_mem (lastT_nodup (by simp))).1 h with rfl | ⟨h,_⟩
   ·obtain ⟨h1,h2,h3⟩:=norm_within (hw ts[i] (List.getElem_mem _)) he
    exact ⟨h1,by omega,by omega,h3⟩
   ·exact lastT_within i (by omega) hw t h
theorem netT_within {n:Nat} {ts:List Trp} (hw:∀ t ∈ ts,Within n t) :∀ t ∈ netT ts,Within n t:=fun t ht =>
 lastT_within ts.length (Nat.le_refl _) hw t (by rw [List.take_length]; exact (sortT_perm _).mem_iff.1 ht)
def nbrs (u:Int) :List Trp→List Int
 | []=>[]
 | t :: l=>match eqI t.1 u with
  | true=>t.2.1 :: nbrs u l
  | false=>match eqI t.2.1 u with
   | true=>t.1 :: nbrs u l
   | false=>nbrs u l
def rowZ (m:List Trp) (u:Int) :List Int:=sortZ (nbrs u m)
theorem nbrs_mem {u x:Int} :∀ {l:List Trp},(∀ t ∈ l,t.1 < t.2.1)→(x ∈ nbrs u l ↔ x ≠ u∧normK u x ∈ l.map keyT)
 | [],_=>by simp [nbrs]
 | t :: l,h=>by
  have ih:=nbrs_mem (u:=u) (x:=x) (l:=l) fun y hy=>h y (by simp [hy])
  have ht:=h t (by simp)
  obtain ⟨a,b,f⟩:=t
  simp only at ht
  have hk:x ≠ u→(normK u x = keyT (a,b,f) ↔ (a = u∧b = x)∨(b = u∧a = x)):=by
   intro hx
   unfold keyT normK
   by_cases hvx:u < x
   ·simp only [hvx,if_true,Prod.mk.injEq]; omega
   ·simp only [hvx,if_false,Prod.mk.injEq]; omega
  simp only [nbrs,List.map_cons,List.mem_cons]
  rw [eqI_dec,eqI_dec]
  by_cases h1:a = u
  ·simp only [h1,decide_true,List.mem_cons,ih]
   subst h1
   constructor
   ·rintro (rfl | ⟨h,h'⟩)
    ·exact ⟨by omega,.inl ((hk (by omega)).2 (.inl ⟨rfl,rfl⟩))⟩
    ·exact ⟨h,.inr h'⟩
   ·rintro ⟨h,h' | h'⟩
    ·rcases (hk h).1 h' with ⟨_,h2⟩ | ⟨h2,h3⟩
     ·exact .inl h2.symm
     ·omega
    ·exact .inr ⟨h,h'⟩
  ·simp only [h1,decide_false]
   by_cases h2:b = u
   ·simp only [h2,decide_true,List.mem_cons,ih]
    subst h2
    constructor
    ·rintro (rfl | ⟨h,h'⟩)
     ·exact ⟨by omega,.inl ((hk (by omega)).2 (.inr ⟨rfl,rfl⟩))⟩
     ·exact ⟨h,.inr h'⟩
    ·rintro ⟨h,h' | h'⟩
     ·rcases (hk h).1 h' with ⟨h2,_⟩ | ⟨_,h3⟩
      ·exact absurd h2 h1
      ·exact .inl h3.symm
     ·exact .inr ⟨h,h'⟩
   ·simp only [h2,decide_false,ih]
    constructor
    ·rintro ⟨h,h'⟩; exact ⟨h,.inr h'⟩
    ·rintro ⟨h,h' | h'⟩
     ·rcases (hk h).1 h' with ⟨h3,_⟩ | ⟨h3,_⟩
      ·exact absurd h3 h1
      ·exact absurd h3 h2
     ·exact ⟨h,h'⟩
theorem nbrs_nodup {u:Int} :∀ {l:List Trp},(∀ t ∈ l,t.1 < t.2.1)→(l.map keyT).Nodup→(nbrs u l).Nodup
 | [],_,_=>by simp [nbrs]
 | t :: l,h,hn=>by
  simp only [List.map_cons,List.nodup_cons] at hn
  have hl:∀ y ∈ l,y.1 < y.2.1:=fun y hy=>h y (by simp [hy])
  have ih:=nbrs_nodup (u:=u) hl hn.2
  have ht:=h t (by simp)
  obtain ⟨a,b,f⟩:=t
  simp only at ht
  simp only [nbrs]
  rw [eqI_dec,eqI_dec]
  by_cases h1:a = u
  ·simp only [h1,decide_true,List.nodup_cons]
   refine ⟨fun hb=>hn.1 ?_,ih⟩
   have:=(nbrs_mem hl).1 hb
   subst h1
   have e:normK a b = (a,b):=by unfold normK; simp [ht]
   rw [e] at this
   exact this.2
  ·simp only [h1,decide_false]
   by_cases h2:b = u
   ·simp only [h2,decide_true,List.nodup_cons]
    refine ⟨fun hb=>hn.1 ?_,ih⟩
    have:=(nbrs_mem hl).1 hb
    subst h2
    have e:normK b a = (a,b):=by
     unfold normK; have:¬ b < a:=by omega
     simp [this]
    rw [e] at this
    exact this.2
   ·simp only [h2,decide_false]; exact ih
theorem nbrs_perm {u:Int} {a b:List Trp} (h:a.Perm b) :(nbrs u a).Perm (nbrs u b):=by
 induction h with
 | nil=>exact List.Perm.refl _
 | cons x _ ih =>
  simp only [nbrs]
  split
  ·exact ih.cons _
  ·split
   ·exact ih.cons _
   ·exact ih
 | swap x y l =>
  simp only [nbrs]
  split <;> (try split) <;> (try split) <;> (try split) <;> first
   | exact List.Perm.refl _
   | exact List.Perm.swap _ _ _
 | trans _ _ h1 h2=>exact h1.trans h2
theorem rowZ_perm {u:Int} {a b:List Trp} (h:a.Perm b) :rowZ a u = rowZ b u :=
 sorted_one (((sortZ_perm _).trans (nbrs_perm h)).trans (sortZ_perm _).symm) (sortZ_sorted _) (sortZ_sorted _)
theorem Edges.lts {n:Nat} {m:List Trp} (h:Edges n m) :∀ t ∈ m,t.1 < t.2.1:=fun t ht=>(h.lt t ht).2.1
theorem rowZ_mem {n:Nat} {m:List Trp} (h:Edges n m) {u x:Int} :x ∈ rowZ m u ↔ x ≠ u∧normK u x ∈ m.map keyT:=by
 unfold rowZ
 rw [(sortZ_perm _).mem_iff,nbrs_mem h.lts]
theorem rowZ_ris {n:Nat} {m:List Trp} (h:Edges n m) (u:Int) :RisZ (rowZ m u):=by
 have h1:(rowZ m u).Nodup:=(sortZ_perm _).nodup_iff.2 (nbrs_nodup h.lts h.nd)
 have h2:(rowZ m u).Pairwise (·≤·):=sortZ_sorted _
 exact (List.pairwise_and_iff.2 ⟨h2,h1⟩).imp fun ⟨a,b⟩=>by omega
theorem risZ_one {a b:List Int} (ha:RisZ a) (hb:RisZ b) (h:∀ x,x ∈ a ↔ x ∈ b) :a = b:=by
 have nd:∀ {l:List Int},RisZ l→l.Nodup:=fun h=>h.imp fun hlt e=>by omega
 exact List.Perm.eq_of_pairwise (le:=fun a b=>a < b) (fun x y _ _ e1 e2=>by omega) ha hb ((List.perm_ext_iff_of_nodup (nd ha) (nd hb)).2 h)
theorem row_net {n:Nat} {m ts:List Trp} (hm:Edges n m) (hw:∀ t ∈ ts,Within n t) (u:Int) :rowZ (chAll m (netT ts)) u = rowZ (chAll m ts) u:=by
 have h1:=hm.all hw
 have h2:=hm.all (netT_within hw)
 refine risZ_one (rowZ_ris h2 u) (rowZ_ris h1 u) fun x=>?_
 rw [rowZ_mem h2,rowZ_mem h1]
 have k1:=chAll_keys hm (normK u x) ts.length (ts:=ts) (Nat.le_refl _) hw
 have k2:=chAll_keys hm (normK u x) (netT ts).length (ts:=netT ts) (Nat.le_refl _) (netT_within hw)
 rw [List.take_length] at k1 k2
 rw [k1,k2,last_net]
 have hp:∀ t,t ∈ netT ts ↔ t ∈ lastT [] ts:=fun t=>(sortT_perm _).mem_iff
 simp only [hp]
theorem row_merge {n:Nat} {m ts:List Trp} (hm:Edges n m) (hw:∀ t ∈ ts,Within n t) (u:Int) :mergeZ u (rowZ m u) (adjT u (netT ts)) = rowZ (chAll m ts) u:=by
 have h1:=hm.all hw
 have hlt:=netT_lt ts
 obtain ⟨g1,g2⟩:=compactZ_ok (sortZ_sorted (oldM u (adjT u (netT ts)) (rowZ m u) ++ newM (adjT u (netT ts))))
 refine risZ_one g1 (rowZ_ris h1 u) fun x=>?_
 unfold mergeZ
 rw [g2,(sortZ_perm _).mem_iff,List.mem_append,oldM_mem,newM_mem,adjT_mem hlt,rowZ_mem hm,rowZ_mem h1]
 have k1:=chAll_keys hm (normK u x) ts.length (ts:=ts) (Nat.le_refl _) hw
 rw [List.take_length] at k1
 rw [k1]
 have hp:∀ t,t ∈ lastT [] ts ↔ t ∈ netT ts:=fun t=>(sortT_perm _).mem_iff.symm
 simp only [hp]
 have hk:x ∉ (adjT u (netT ts)).map (·.1) ↔ ¬ (x ≠ u∧∃ t ∈ netT ts,keyT t = normK u x):=by
  refine not_congr ?_
  simp only [List.mem_map]
  constructor
  ·rintro ⟨⟨y,g⟩,hy,rfl⟩
   obtain ⟨e1,t,ht,e2,_⟩:=(adjT_mem hlt).1 hy
   exact ⟨e1,t,ht,e2⟩
  ·rintro ⟨e1,t,ht,e2⟩
   exact ⟨(x,t.2.2),(adjT_mem hlt).2 ⟨e1,t,ht,e2,rfl⟩,rfl⟩
 rw [hk]
 by_cases hxu:x = u
 ·simp [hxu]
 ·simp only [ne_eq,hxu,not_false_eq_true,true_and,and_true,not_exists,not_and]
  constructor
  ·rintro (⟨h,h'⟩ | h)
   ·exact .inr ⟨h',h⟩
   ·exact .inl h
  ·rintro (h | ⟨h,h'⟩)
   ·exact .inr h
   ·exact .inl ⟨h',h⟩
end Go.Am
end

section
namespace Go.Am
open Go Go.RowKit
section
variable {P:Program} {T:Tys} {B:Nat} {φ:Emb} {H:AHeap} {w:World}
theorem HRel.come2 (hH:HRel T B φ H w) (o:AObj) {x:Place} (hlt:x.c < w.heap.size) (hne:∀ q z,PT.get q H.t ≠ none→φ q = some z→z.c ≠ x.c) (ho:ORel T (φ.put H.nx x) B w o x) :
  HRel T B (φ.put H.nx x) (H.new o).2 w∧Ext φ H (φ.put H.nx x) (H.new o).2:=by
 refine ⟨hH.place H.nx x hH.fresh (by simp [AHeap.new,Pos.toNat_succ]) (by simp [AHeap.new,Pos.toNat_succ]) (fun q hq=>.inl (by simp [AHeap.new,PT.get_set_other _ _ _ _ (fun e=>hq e.symm)])) (fun q z hq hg hz=>?_) hlt (Nat.le_refl _) (fun o' h'=>?_),Emb.le_put _ hH.fresh,fun p hp hn=>?_,by simp [AHeap.new,Pos.toNat_succ]⟩
 ·refine ⟨hne q z ?_ hz,rfl⟩
  simpa [AHeap.new,PT.get_set_other _ _ _ _ (fun e=>hq e.symm)] using hg
 ·rw [AHeap.get_new] at h'
  cases h'
  exact ho
 ·have:p ≠ H.nx:=fun e=>by rw [e] at hp; omega
  exact ⟨by rw [Emb.put_other _ _ this]; exact hn,by simp [AHeap.new,PT.get_set_other _ _ _ _ (fun e=>this e.symm)]⟩
def Also (φ' φc:Emb) (a a':AVal) :Prop:=∀ u,VRel φ' a u→VRel φc a' u
theorem Also.mono {φ' φc φd:Emb} {a a':AVal} (h:Also φ' φc a a') (k:φc.le φd) :Also φ' φd a a':=fun u hu=>VRel.mono k _ _ (h u hu)
theorem also_flat {φ' φc:Emb} {a:AVal} (h:flatV a = true) :Also φ' φc a a:=fun _ hu=>flat_rel h hu
theorem cells_also {φ' φc:Emb} {B':Nat} {l l':List AVal} {op:Bool} {x:Place} (h:ORel T φ' B' w (.cells l op false) x) (hl:l'.length = l.length) (ha:∀ (i:Nat) (a a':AVal),l[i]? = some a→l'[i]? = some a'→Also φ' φc a a') (hB:B≤B') :ORel T φc B w (.cells l' op false) x:=by
 obtain ⟨arr,e,lo,hi,g1,g2,g3,g4,g5,g6,g7⟩:=h
 refine ⟨arr,e,lo,hi,g1,g2,by rw [hl]; exact g3,fun i a' hi=>?_,g5,g6,fun h=>Nat.le_trans hB (g7 h)⟩
 have hlt:i < l.length:=by rw [← hl]; exact (List.getElem?_eq_some_iff.1 hi).1
 obtain ⟨v,h1,h2⟩:=g4 i l[i] (List.getElem?_eq_getElem hlt)
 exact ⟨v,h1,ha i _ _ (List.getElem?_eq_getElem hlt) hi v h2⟩
structure Anew (T:Tys) (B:Nat) (φ0:Emb) (H0:AHeap) (S:Nat) (φ':Emb) (w':World) (L:List Pos) (φc:Emb) (Hc:AHeap) :Prop where
 rel:HRel T B φc Hc w'
 ext:Ext φ0 H0 φc Hc
 own:∀ q z,PT.get q Hc.t ≠ none→φc q = some z→z.c < S∨∃ p ∈ L,φ' p = some z
theorem Anew.add {φ0 φ' φc:Emb} {H0 H' Hc:AHeap} {S B':Nat} {w':World} {L:List Pos} (hr:HRel T B' φ' H' w') (h:Anew T B φ0 H0 S φ' w' L φc Hc) {p:Pos} {x:Place} (hx:φ' p = some x) (hS:S≤x.c) (hp:p ∉ L) (hpn:PT.get p H'.t ≠ none) (hL:∀ q ∈ L,PT.get q H'.t ≠ none) {o:AObj} (ho:ORel T (φc.put Hc.nx x) B w' o x) :
  Anew T B φ0 H0 S φ' w' (p :: L) (φc.put Hc.nx x) (Hc.new o).2:=by
 obtain ⟨h1,h2⟩:=h.rel.come2 o (x:=x) (hr.low p x hx).2 (fun q z hq hz=>by
  rcases h.own q z hq hz with h1 | ⟨r,hr1,hr2⟩
  ·omega
  ·exact hr.inj r p z x (fun e=>hp (by rw [← e]; exact hr1)) (hL r hr1) hpn hr2 hx) ho
 refine ⟨h1,h.ext.trans h2,fun q z hq hz=>?_⟩
 by_cases e:q = Hc.nx
 ·subst e
  rw [Emb.put_same] at hz
  cases hz
  exact .inr ⟨p,by simp,hx⟩
 ·rw [Emb.put_other _ _ e] at hz
  have hq':PT.get q Hc.t ≠ none:=by
   simpa [AHeap.new,PT.get_set_other _ _ _ _ (fun h=>e h.symm)] using hq
  rcases h.own q z hq' hz with h1 | ⟨r,h1,h2⟩
  ·exact .inl h1
  ·exact .inr ⟨r,by simp [h1],h2⟩
def RowAt (H:AHeap) (v:AVal) (l:List Int) :Prop :=
 (v = .snil∧l = [])∨∃ b a m,l = a :: m∧v = .sl b 0 l.length l.length 1∧PT.get b H.t = some (.cells (intVals l) true false)
def rowBlk:AVal→Option Pos
 | .sl b _ _ _ _=>some b
 | _=>none
def RowsAt (H:AHeap) :List AVal→List (List Int)→Prop
 | [],[]=>True
 | v :: vs,l :: ls=>RowAt H v l∧(∀ b,rowBlk v = some b→∀ u ∈ vs,rowBlk u ≠ some b)∧RowsAt H vs ls
 | _,_=>False
def layRows:AHeap→List (List Int)→List AVal × AHeap
 | H,[]=>([],H)
 | H,[] :: ls=>(.snil :: (layRows H ls).1,(layRows H ls).2)
 | H,(a :: m) :: ls=>(.sl H.nx 0 (a :: m).length (a :: m).length 1 :: (layRows (H.new (.cells (intVals (a :: m)) true false)).2 ls).1,(layRows (H.new (.cells (intVals (a :: m)) true false)).2 ls).2)
theorem Anew.rows {φ0 φ':Emb} {H0 H':AHeap} {S:Nat} {w':World} (hr:HRel T S φ' H' w') (hBS:B≤S) :∀ (vs:List AVal) (ls:List (List Int)) {L:List Pos} {φc:Emb} {Hc:AHeap},Anew T B φ0 H0 S φ' w' L φc Hc→RowsAt H' vs ls→(∀ q ∈ L,PT.get q H'.t ≠ none) →
  (∀ v ∈ vs,∀ b,rowBlk v = some b→b ∉ L)→(∀ v ∈ vs,∃ u,VRel φ' v u) →
  ∃ φd L',Anew T B φ0 H0 S φ' w' L' φd (layRows Hc ls).2∧φc.le φd∧(∀ q ∈ L',PT.get q H'.t ≠ none)∧(∀ q ∈ L',q ∈ L∨∃ v ∈ vs,rowBlk v = some q)∧(layRows Hc ls).1.length = vs.length∧∀ (i:Nat) (a a':AVal),vs[i]? = some a→(layRows Hc ls).1[i]? = some a'→Also φ' φd a a'
 | [],[],L,φc,Hc,h,_,hL,_,_=>⟨φc,L,h,Emb.le_refl _,hL,fun q hq=>.inl hq,rfl,fun i a a' hi=>by simp at hi⟩
 | [],_ :: _,_,_,_,_,h,_,_,_=>h.elim
 | _ :: _,[],_,_,_,_,h,_,_,_=>h.elim
 | v :: vs,l :: ls,L,φc,Hc,h,hR,hL,hd,hv=>by
  obtain ⟨h1,h2,h3⟩:=hR
  rcases h1 with ⟨rfl,rfl⟩ | ⟨b,a,m,rfl,rfl,hb⟩
  ·obtain ⟨φd,L',k1,k2,k3,k4,k5,k6⟩:=Anew.rows hr hBS vs ls h h3 hL (fun v hv'=>hd v (by simp [hv'])) (fun v hv'=>hv v (by simp [hv']))
   refine ⟨φd,L',k1,k2,k3,fun q hq=>?_,by simp [layRows,k5],fun i a a' ha ha'=>?_⟩
   ·rcases k4 q hq with h | ⟨v,h1,h2⟩
    ·exact .inl h
    ·exact .inr ⟨v,by simp [h1],h2⟩
   ·cases i with
    | zero =>
     simp only [layRows,List.getElem?_cons_zero,Option.some.injEq] at ha ha'
     subst ha ha'
     exact fun u hu=>hu
    | succ i=>exact k6 i a a' (by simpa using ha) (by simpa [layRows] using ha')
  ·obtain ⟨u,x,ad,cap',hx,hu⟩:=hv _ (List.mem_cons_self)
   have hbn:PT.get b H'.t ≠ none:=by rw [hb]; simp
   have ho:=hr.obj b _ x hb hx
   have hSx:S≤x.c:=by
    obtain ⟨arr,e,lo,hi,g1,g2,g3,g4,g5,g6,g7⟩:=ho
    exact g7 rfl
   have hA:=h.add hr hx hSx (hd _ (List.mem_cons_self) b rfl) hbn hL (o:=.cells (intVals (a :: m)) true false) (by
    refine cells_also ho rfl (fun i a a' e1 e2=>?_) hBS
    rw [e1] at e2
    cases e2
    exact also_flat (List.all_eq_true.1 (flat_intVals _) _ (List.mem_of_getElem? e1)))
   obtain ⟨φd,L',k1,k2,k3,k4,k5,k6⟩:=Anew.rows hr hBS vs ls hA h3 (fun q hq=>by
    rcases List.mem_cons.1 hq with rfl | hq
    ·exact hbn
    ·exact hL q hq) (fun v hv' c hc hm=>by
    rcases List.mem_cons.1 hm with rfl | hm
    ·exact h2 c rfl v hv' hc
    ·exact hd v (by simp [hv']) c hc hm) (fun v hv'=>hv v (by simp [hv']))
   have hle:φc.le φd:=Emb.le_trans (Emb.le_put _ h.rel.fresh) k2
   refine ⟨φd,L',k1,hle,k3,fun q hq=>?_,by simp [layRows,k5],fun i a a' ha ha'=>?_⟩
   ·rcases k4 q hq with h | ⟨v,h1,h2⟩
    ·rcases List.mem_cons.1 h with rfl | h
     ·exact .inr ⟨_,List.mem_cons_self,rfl⟩
     ·exact .inl h
    ·exact .inr ⟨v,by simp [h1],h2⟩
   ·cases i with
    | zero =>
     simp only [layRows,List.getElem?_cons_zero,Option.some.injEq] at ha ha'
     subst ha ha'
     rintro u ⟨y,ad,cap',hy,hu⟩
     rw [hx] at hy
     cases hy
     exact ⟨x,ad,cap',k2 _ _ (Emb.put_same _ _ _),hu⟩
    | succ i=>exact k6 i a a' (by simpa using ha) (by simpa [layRows] using ha')
structure GraphAt (H:AHeap) (g m:Pos) (n:Nat) (vs:List AVal) (ls:List (List Int)) :Prop where
 own:∃ tb,PT.get g H.t = some (.cells [.int .i64 (.ofNat n),.map m,.sl tb 0 n n 0] false false)∧PT.get tb H.t = some (.cells vs false false)
 rows:RowsAt H vs ls
 len:vs.length = n
def layGraph (H:AHeap) (m:Pos) (n:Nat) (ls:List (List Int)) :AVal × AHeap :=
 (.ptr (layRows H ls).2.nx.succ 0,(((layRows H ls).2.new (.cells (layRows H ls).1 false false)).2.new (.cells [.int .i64 (.ofNat n),.map m,.sl (layRows H ls).2.nx 0 n n 0] false false)).2)
theorem rows_op {H:AHeap} :∀ {vs:List AVal} {ls:List (List Int)},RowsAt H vs ls→∀ v ∈ vs,∀ b,rowBlk v = some b→∃ l,PT.get b H.t = some (.cells l true false)
 | [],[],_,v,hv,_,_=>by cases hv
 | [],_ :: _,h,_,_,_,_=>h.elim
 | _ :: _,[],h,_,_,_,_=>h.elim
 | u :: vs,l :: ls,⟨h1,_,h3⟩,v,hv,b,hb=>by
  rcases List.mem_cons.1 hv with rfl | hv
  ·rcases h1 with ⟨rfl,_⟩ | ⟨c,a,m,rfl,rfl,hc⟩
   ·cases hb
   ·cases hb; exact ⟨_,hc⟩
  ·exact rows_op h3 v hv b hb
theorem Anew.graph {φ0 φ' φc:Emb} {H0 H' Hc:AHeap} {S:Nat} {w':World} {L:List Pos} (hr:HRel T S φ' H' w') (hBS:B≤S) (h:Anew T B φ0 H0 S φ' w' L φc Hc) {g m mc:Pos} {n:Nat} {vs:List AVal} {ls:List (List Int)} (hg:GraphAt H' g m n vs ls) {u:Value} (hu:VRel φ' (.ptr g 0) u)
  (hL:∀ q ∈ L,∃ es,PT.get q H'.t = some (.map es)) (hm:∀ x,φ' m = some x→φc mc = some x) :
  ∃ φd L',Anew T B φ0 H0 S φ' w' L' φd (layGraph Hc mc n ls).2∧φc.le φd∧VRel φd (layGraph Hc mc n ls).1 u:=by
 obtain ⟨x,hx,rfl⟩:=hu
 obtain ⟨tb,hgo,htb⟩:=hg.own
 have hog:=hr.obj g _ x hgo hx
 obtain ⟨arr,e,lo,hi,g1,g2,g3,g4,g5,g6,g7⟩:=id hog
 obtain ⟨v2,hv2,y,ad,cap',hy,hv2'⟩:=g4 2 _ rfl
 have hot:=hr.obj tb _ y htb hy
 have hrv:∀ v ∈ vs,∃ u,VRel φ' v u:=by
  intro v hv
  obtain ⟨i,hi,rfl⟩:=List.getElem_of_mem hv
  obtain ⟨_,_,_,_,_,_,_,k4,_⟩:=hot
  obtain ⟨u,_,hu⟩:=k4 i _ (List.getElem?_eq_getElem hi)
  exact ⟨u,hu⟩
 have hop:=rows_op hg.rows
 obtain ⟨φ1,L1,a1,a2,a3,a4,a5,a6⟩:=Anew.rows hr hBS vs ls h hg.rows (fun q hq=>by obtain ⟨es,e⟩:=hL q hq; rw [e]; simp) (fun v hv b hb hbL=>by
  obtain ⟨l,e1⟩:=hop v hv b hb
  obtain ⟨es,e2⟩:=hL b hbL
  rw [e1] at e2; cases e2) hrv
 have hin:∀ q ∈ L1,(∃ es,PT.get q H'.t = some (.map es))∨∃ l,PT.get q H'.t = some (.cells l true false):=fun q hq=>by
  rcases a4 q hq with h | ⟨v,h1,h2⟩
  ·exact .inl (hL q h)
  ·exact .inr (hop v h1 q h2)
 have hSy:S≤y.c:=by obtain ⟨_,_,_,_,_,_,_,_,_,_,k7⟩:=hot; exact k7 rfl
 have A2:=a1.add hr hy hSy (p:=tb) (fun hm=>by
  rcases hin tb hm with ⟨es,e⟩ | ⟨l,e⟩ <;> (rw [htb] at e; cases e)) (by rw [htb]; simp) a3 (o:=.cells (layRows Hc ls).1 false false) (by
  refine cells_also hot a5 (fun i a a' e1 e2=>?_) hBS
  exact (a6 i a a' e1 e2).mono (Emb.le_put _ a1.rel.fresh))
 have htg:tb ≠ g:=fun e=>by
  subst e
  rw [htb] at hgo
  have:=congrArg (fun o=>match o with | some (AObj.cells l _ _)=>l | _=>[]) hgo
  simp only at this
  subst this
  obtain ⟨u0,hu0⟩:=hrv (.int .i64 (.ofNat n)) (by simp)
  have hR:=hg.rows
  cases ls with
  | nil=>exact hR
  | cons l ls =>
   rcases hR.1 with ⟨h,_⟩ | ⟨_,_,_,_,h,_⟩ <;> cases h
 have A3:=A2.add hr hx (g7 rfl) (p:=g) (fun hm=>by
  rcases List.mem_cons.1 hm with rfl | hm
  ·exact htg rfl
  ·rcases hin g hm with ⟨es,e⟩ | ⟨l,e⟩ <;> (rw [hgo] at e; cases e)) (by rw [hgo]; simp) (fun q hq=>by
  rcases List.mem_cons.1 hq with rfl | hq
  ·rw [htb]; simp
  ·exact a3 q hq) (o:=.cells [.int .i64 (.ofNat n),.map mc,.sl (layRows Hc ls).2.nx 0 n n 0] false false) (by
  refine cells_also hog rfl (fun i a a' e1 e2=>?_) hBS
  match i,e1,e2 with
  | 0,e1,e2 =>
   simp only [List.getElem?_cons_zero,Option.some.injEq] at e1 e2
   subst e1 e2
   exact fun u hu=>hu
  | 1,e1,e2 =>
   simp only [List.getElem?_cons_succ,List.getElem?_cons_zero,Option.some.injEq] at e1 e2
   subst e1 e2
   rintro u ⟨z,hz,rfl⟩
   exact ⟨z,Emb.le_put _ A2.rel.fresh _ _ (Emb.le_put _ a1.rel.fresh _ _ (a2 _ _ (hm z hz))),rfl⟩
  | 2,e1,e2 =>
   simp only [List.getElem?_cons_succ,List.getElem?_cons_zero,Option.some.injEq] at e1 e2
   subst e1 e2
   rintro u ⟨z,ad,cap',hz,hu⟩
   rw [hy] at hz
   cases hz
   exact ⟨y,ad,cap',Emb.le_put _ A2.rel.fresh _ _ (Emb.put_same _ _ _),hu⟩
  | i + 3,e1,e2=>simp at e1)
 exact ⟨_,_,A3,Emb.le_trans a2 (Emb.le_trans (Emb.le_put _ a1.rel.fresh) (Emb.le_put _ A2.rel.fresh)),x,Emb.put_same _ _ _,rfl⟩
end
end Go.Am
end

section
namespace Go.Am
open Go Go.RowKit
open Go.Sort (grow putRow mapBlock putCells Holds)
section
variable {P:Program} {T:Tys} {B:Nat} {φ:Emb} {H:AHeap} {w:World}
theorem Sim.rowO {zs:List Int} {b:Pos} {x:Place} (hH:HRel T B φ H w) (hx:φ b = some x) {l:List AVal} (hb:PT.get b H.t = some (.cells l true false)) (hlen:l.length = zs.length) (q:Nat) (os:Array Obj) :
  Sim T B φ H w φ (H.upd b (.cells (intVals zs) true false)) (grow (putRow (Value.int .i64) (Go.Sort.ahead w q) x.c x.s zs.toArray) os):=by
 obtain ⟨arr,e,lo,hi,g1,g2,g3,g4,g5,g6,g7⟩:=hH.obj b _ x hb hx
 have hBx:=g7 rfl
 have h1:Sim T B φ H w φ (H.upd b (.cells (intVals zs) true false)) (putRow (Value.int .i64) (Go.Sort.ahead w q) x.c x.s zs.toArray):=by
  have hother:∀ c,c ≠ x.c→(putRow (Value.int .i64) (Go.Sort.ahead w q) x.c x.s zs.toArray).heap[c]? = w.heap[c]?:=fun c hc=>putRow_other _ (Go.Sort.ahead w q) x.c x.s _ hc
  refine Sim.turn hH hx (by rw [hb]; simp) (Below.of_one (c:=x.c) hBx rfl rfl rfl (putRow_size _ (Go.Sort.ahead w q) x.c x.s _) hother) (putRow_size _ (Go.Sort.ahead w q) x.c x.s _) hother ?_
  refine ⟨_,e,lo,hi,putRow_at _ (Go.Sort.ahead w q) x.c x.s _ g1,by simp [putCells,g2],by rw [intVals_length]; omega,fun i a hi=>?_,g5,fun h=>(by cases h),fun _=>hBx⟩
  have hiz:i < zs.length:=by
   have:=(List.getElem?_eq_some_iff.1 hi).1
   rwa [intVals_length] at this
  refine ⟨_,?_,int_get hi⟩
  have:x.s + i < arr.size:=by omega
  rw [putCells,Array.getElem?_mapIdx,Array.getElem?_eq_getElem this]
  simp [hiz]
 refine h1.trans ?_
 have hb2:Below (putRow (Value.int .i64) (Go.Sort.ahead w q) x.c x.s zs.toArray).heap.size (putRow (Value.int .i64) (Go.Sort.ahead w q) x.c x.s zs.toArray) (grow (putRow (Value.int .i64) (Go.Sort.ahead w q) x.c x.s zs.toArray) os):=by
  refine ⟨rfl,rfl,rfl,by simp [grow],fun k hk=>?_⟩
  show ((putRow (Value.int .i64) (Go.Sort.ahead w q) x.c x.s zs.toArray).heap ++ os)[k]? = _
  rw [Array.getElem?_append_left hk]
 exact Sim.grown h1.rel hb2
def sSortO:List AVal→AHeap→ARes
 | [.snil],h=>some (.tup [],h)
 | [.sl b o n cap sz],h=>match Nat.beq o 0,Nat.beq sz 1,PT.get b h.t with
  | true,true,some (.cells l true false)=>match intsOf l,Nat.beq n l.length,Nat.ble n 1000000000 with
   | some zs,true,true=>some (.tup [],h.upd b (.cells (intVals (sortZ zs)) true false))
   | _,_,_=>none
  | _,_,_=>none
 | _,_=>none
theorem sortO_run {H:AHeap} {b:Pos} {zs:List Int} {cap:Nat} (h:PT.get b H.t = some (.cells (intVals zs) true false)) (hl:zs.length≤1000000000) :sSortO [.sl b 0 zs.length cap 1] H = some (.tup [],H.upd b (.cells (intVals (sortZ zs)) true false)):=by
 have e1:Nat.beq zs.length (intVals zs).length = true:=by rw [intVals_length]; simp
 have e2:Nat.ble zs.length 1000000000 = true:=Nat.ble_eq_true_of_le hl
 simp only [sSortO,h,intsOf_vals,e1,e2]
theorem sumOk_sortO {f:FuncId} {fn:Func} {c:Code} (hf:P.funcs[f]? = some fn) (hname:(fn.name == "runtime.NumGoroutine") = false) (hbody:fn.body = some c)
  (hc:∀ (blk off cap:Nat) (zs:List Int) (w:World),Holds (Value.int .i64) w blk off zs.toArray→blk < w.heap.size→zs.length < 4611686018427387904 →
   Calls P f #[.slice (some ⟨blk,off,none⟩) zs.length cap] w fun e w'=>e = .returned (.tuple #[])∧∃ n os,w' = grow (putRow (Value.int .i64) (Go.Sort.ahead w n) blk off (zs.mergeSort fun x y=>decide (x≤y)).toArray) os)
  (h0:∀ p cap w,Calls P f #[.slice p 0 cap] w fun e w'=>e = .returned (.tuple #[])∧w' = w) :SumOk P T B f sSortO:=by
 intro φ H w args args' v H' hH hl h
 unfold sSortO at h
 split at h
 ·cases h
  obtain ⟨u,us,e1,e2,e3⟩:=hl
  have e3:us = []:=e3
  have e2:u = .slice none 0 0:=e2
  subst e2 e3
  obtain rfl:args' = #[.slice none 0 0]:=Array.ext' e1
  refine .inl ⟨run_callFunc hf hname hbody,callsIn_FR (r:=none) (n:=0) (m:=0) (callsIn_wide.2 (Calls.mono (h0 none 0 w) ?_))⟩
  rintro e w' ⟨rfl,rfl⟩
  exact ⟨_,φ,rfl,⟨#[],rfl,rfl⟩,Sim.refl hH⟩
 ·rename_i b o n cap sz
  split at h
  rotate_left
  ·cases h
  rename_i l ho hsz hb
  have ho:o = 0:=Nat.eq_of_beq_eq_true ho
  have hsz:sz = 1:=Nat.eq_of_beq_eq_true hsz
  subst ho hsz
  split at h
  rotate_left
  ·cases h
  rename_i zs hzs hn hle
  cases h
  have e:=intsOf_ok hzs
  subst e
  have hn:n = zs.length:=by
   have:=Nat.eq_of_beq_eq_true hn
   rwa [intVals_length] at this
  subst hn
  have hle:=Nat.le_of_ble_eq_true hle
  obtain ⟨u,us,e1,⟨x,a,cap',hx,rfl,h1,h2,h3⟩,e3⟩:=hl
  have e3:us = []:=e3
  subst e3
  obtain rfl:args' = #[.slice (some a) zs.length cap']:=Array.ext' e1
  refine .inl ⟨run_callFunc hf hname hbody,?_⟩
  have hlt:=(hH.low b x hx).2
  by_cases hz:zs.length = 0
  ·have hz0:zs = []:=List.length_eq_zero_iff.1 hz
   subst hz0
   refine callsIn_FR (r:=none) (n:=0) (m:=0) (callsIn_wide.2 (Calls.mono (h0 (some a) cap' w) ?_))
   rintro e w' ⟨rfl,rfl⟩
   refine ⟨_,φ,rfl,⟨#[],rfl,rfl⟩,?_⟩
   have:=Sim.rowO (zs:=[]) hH hx hb rfl 0 #[]
   have hw:grow (putRow (Value.int .i64) (Go.Sort.ahead w' 0) x.c x.s ([] :List Int).toArray) #[] = w':=by
    rw [Go.Sort.grow_empty,Go.Sort.ahead_zero,putRow,Go.Sort.mapBlock_id]
    intro c e fr _
    apply Array.ext
    ·simp [putCells]
    ·intro i h1 h2
     simp [putCells]
     intro h3 h4
     omega
   rw [hw] at this
   exact this
  ·have hae:a = ⟨x.c,x.s,none⟩:=by
    rcases h3 with ⟨h,_⟩ | ⟨_,h,_⟩ | ⟨_,h⟩
    ·cases h
    ·exact h
    ·omega
   subst hae
   obtain ⟨arr,e,lo,hi,g1,g2,g3,g4,g5,g6,g7⟩:=hH.obj b _ x hb hx
   have hHo:Holds (Value.int .i64) w x.c x.s zs.toArray:=by
    intro j hj
    have hjz:j < zs.length:=by simpa using hj
    have hj':(intVals zs)[j]? = some (.int .i64 zs[j]):=by rw [intVals_eq]; simp [hjz]
    obtain ⟨v,e1,e2⟩:=g4 j _ hj'
    have e2:v = .int .i64 zs[j]:=e2
    subst e2
    refine ⟨?_,?_⟩
    ·rw [cells_at g1,e1]
     simp [hjz]
    ·have hjk:x.s + j < x.k:=by rw [intVals_length] at g3; omega
     simp only [World.frozen?,g1]
     rcases g5 with g5 | g5 | g5
     ·simp; omega
     ·simp; omega
     ·cases g5
   refine callsIn_FR (r:=none) (n:=0) (m:=0) (callsIn_wide.2 (Calls.mono (hc x.c x.s cap' zs w hHo hlt (by omega)) ?_))
   rintro e w' ⟨rfl,q,os,rfl⟩
   rw [mergeSort_eq]
   exact ⟨_,φ,rfl,⟨#[],rfl,rfl⟩,Sim.rowO hH hx hb (by rw [intVals_length,sortZ_length]) q os⟩
 ·cases h
open Classical in
noncomputable def sOr (P:Program) (T:Tys) (f:FuncId) (g:List AVal→AHeap→AVal × AHeap) :List AVal→AHeap→ARes:=fun args H =>
 if ∀ B φ w args',HRel T B φ H w→LRel φ args args'.toList→CallOk P T B φ H w f args' (g args H).1 (g args H).2 then some (g args H) else none
theorem sumOk_or {f:FuncId} {g:List AVal→AHeap→AVal × AHeap} :SumOk P T B f (sOr P T f g):=by
 intro φ H w args args' v H' hH hl h
 unfold sOr at h
 split at h
 ·rename_i hc
  have h:=Option.some.inj h
  have:=hc B φ w args' hH hl
  rw [h] at this
  exact this
 ·cases h
theorem or_ok {f:FuncId} {g:List AVal→AHeap→AVal × AHeap} {args:List AVal} {H:AHeap} (h:∀ B φ w args',HRel T B φ H w→LRel φ args args'.toList→CallOk P T B φ H w f args' (g args H).1 (g args H).2) :sOr P T f g args H = some (g args H):=by
 unfold sOr
 rw [if_pos h]
theorem append_row {H:AHeap} {v x:AVal} {l:List Int} {z:Int} (h:RowAt H v l) (hl:∀ b,rowBlk v = some b→b.toNat < H.nx.toNat) (hx:srcCells H 1 x = some (1,[.int .i64 z])) (hb:l.length≤10000000) :
  ∃ H',appendA H 1 8 v x = some (.sl H.nx 0 (l ++ [z]).length (l ++ [z]).length 1,H')∧PT.get H.nx H'.t = some (.cells (intVals (l ++ [z])) true false)∧(∀ p,p ≠ H.nx→rowBlk v ≠ some p→PT.get p H'.t = PT.get p H.t)∧H'.nx.toNat = H.nx.toNat + 1:=by
 rcases h with ⟨rfl,rfl⟩ | ⟨b,a,m,hlm,rfl,h1⟩
 ·refine ⟨(H.new (.cells (intVals [z]) true false)).2,?_,get_new,fun p hp _=>get_new_other hp,nx_new⟩
  unfold appendA
  rw [hx]
  rfl
 ·subst hlm
  have hbl:=hl b rfl
  refine ⟨((H.kill b).new (.cells (intVals (a :: m) ++ intVals [z]) true false)).2,?_,?_,fun p hp hpb=>?_,?_⟩
  ·have e1:Nat.ble (Nat.add (a :: m).length 1) (a :: m).length = false:=ble_f (by show (a :: m).length < (a :: m).length + 1; omega)
   have e2:hloadN H b 0 (Nat.mul (a :: m).length 1) = some (intVals (a :: m)):=by
    rw [hloadN_at h1 (by rw [intVals_length]; show 0 + (a :: m).length * 1≤_; omega),List.drop_zero,List.take_of_length_le (by rw [intVals_length]; show (a :: m).length≤(a :: m).length * 1; omega)]
   have e3:Nat.ble (Nat.mul (Nat.mul (Nat.add (a :: m).length 1) 2) 8) 281474976710656 = true:=ble_t (by show ((a :: m).length + 1) * 2 * 8≤_; omega)
   have e4:allScal [AVal.int .i64 z] = true:=rfl
   unfold appendA
   rw [hx]
   simp only [e1,e2,e3,h1,e4]
   simp only [List.length_append,List.length_cons,List.length_nil]
   rfl
  ·rw [intVals_append]
   exact get_new (H:=H.kill b)
  ·have hne:b ≠ p:=fun e=>hpb (by rw [e]; rfl)
   rw [get_new_other (H:=H.kill b) hp]
   exact PT.get_set_other _ _ _ _ hne
  ·rw [nx_new]; rfl
end
end Go.Am
end

section
namespace Go.Am
open Go Go.RowKit
section
variable {P:Program} {T:Tys} {B:Nat} {φ:Emb} {H:AHeap} {w:World}
theorem Anew.start {φ':Emb} {w':World} (hH:HRel T B φ H w) (hb:Below w.heap.size w w') :Anew T B φ H w.heap.size φ' w' [] φ H :=
 ⟨hH.grown hb,Ext.refl _ _,fun q z _ hz=>.inl (hH.low q z hz).2⟩
theorem returns_graph (hH:HRel T B φ H w) {t0:PT AObj} {f:FuncId} {vs:Array Value} {m:Pos} {n:Nat} {ls:List (List Int)} (hm:φ m ≠ none) (henter:(callFunc f vs).run P w = .ok (.enter f vs) w)
  (h:CallsIn Fence.wide 0 P f vs w fun e w'=>∃ v H',(∃ g rs,v = .ptr g 0∧GraphAt H' g m n rs ls)∧Ends T w.heap.size φ ⟨t0,H.nx⟩ w v H' e w') :
  Returns P T B φ H w f vs (layGraph H m n ls).1 (layGraph H m n ls).2:=by
 refine ⟨henter,CallsIn.mono h ?_⟩
 rintro e w' ⟨v,H',⟨g,rs,rfl,hg⟩,u,φ',rfl,hu,hS⟩
 have hle:φ.le φ':=hS.ext.le
 obtain ⟨φd,L',h1,h2,h3⟩:=Anew.graph hS.rel hH.base (Anew.start hH hS.below) hg hu (fun q hq=>by cases hq) (mc:=m) (fun x hx=>by
  cases e:φ m with
  | none=>exact absurd e hm
  | some y=>rw [hle _ _ e] at hx; exact hx)
 exact ⟨u,φd,rfl,h3,⟨h1.ext,h1.rel,hS.below.mono hH.base⟩⟩
theorem perm_map_inv {α β:Type} {f:α→β} :∀ {m:List β} {l:List α},(l.map f).Perm m→∃ l2,l.Perm l2∧l2.map f = m
 | [],l,h=>by
  have:=h.length_eq
  simp at this
  subst this
  exact ⟨[],List.Perm.refl _,rfl⟩
 | b :: m,l,h=>by
  obtain ⟨a,ha,rfl⟩:=List.mem_map.1 (h.mem_iff.2 List.mem_cons_self)
  obtain ⟨s,t,rfl⟩:=List.append_of_mem ha
  have h2:((s ++ t).map f).Perm m:=by
   have h3:((s ++ a :: t).map f).Perm (f a :: (s ++ t).map f):=by simp
   exact (List.perm_cons _).1 (h3.symm.trans h)
  obtain ⟨l2,h4,h5⟩:=perm_map_inv h2
  exact ⟨a :: l2,List.perm_middle.trans (h4.cons a),by simp [h5]⟩
theorem map_also {φ' φc:Emb} {B':Nat} {es es2:List (AVal × AVal)} {x:Place} (h:ORel T φ' B' w (.map es) x) (hp:es.Perm es2) (hf:∀ p ∈ es,(∀ u,VRel φ' p.1 u→VRel φc p.1 u)∧∀ u,VRel φ' p.2 u→VRel φc p.2 u) (hB:B≤B') :ORel T φc B w (.map es2) x:=by
 obtain ⟨es',clock,g1,⟨⟨l,p1,p2,p3⟩,n1,n2,n3⟩,g3⟩:=h
 obtain ⟨ts,h1,h2,h3⟩:=trips_of p2 p3
 rw [← h2] at hp
 obtain ⟨ts2,k1,rfl⟩:=perm_map_inv hp
 refine ⟨es',clock,g1,mapRel_of_trips ?_ (fun x hx=>?_) n1 n2 n3,Nat.le_trans hB g3⟩
 ·rw [← h1] at p1
  exact (k1.map _).symm.trans p1
 ·have hx':=k1.mem_iff.2 hx
  obtain ⟨h4,h5⟩:=h3 x hx'
  have:=hf x.ab (by rw [← h2]; exact List.mem_map.2 ⟨x,hx',rfl⟩)
  exact ⟨this.1 _ h4,this.2 _ h5⟩
theorem entT_also {φ' φc:Emb} (t:Trp) :(∀ u,VRel φ' (entT t).1 u→VRel φc (entT t).1 u)∧∀ u,VRel φ' (entT t).2 u→VRel φc (entT t).2 u:=by
 refine ⟨fun u ⟨vs,h1,v1,r1,e1,h2,v2,r2,e2,h3,h4⟩=>⟨vs,h1,v1,r1,e1,h2,v2,r2,e2,h3,h4⟩,fun u h=>h⟩
theorem returns_graph2 (hH:HRel T B φ H w) {t0:PT AObj} {f:FuncId} {vs:Array Value} {n:Nat} {es:List Trp} {ls:List (List Int)} {k:IntKind} {z:Int} (henter:(callFunc f vs).run P w = .ok (.enter f vs) w)
  (h:CallsIn Fence.wide 0 P f vs w fun e w'=>∃ v H',(∃ (g m:Pos) (rs:List AVal) (ms:List Trp),v = .tup [.ptr g 0,.int k z]∧GraphAt H' g m n rs ls∧PT.get m H'.t = some (.map (ms.map entT))∧ms.Perm es)∧Ends T w.heap.size φ ⟨t0,H.nx⟩ w v H' e w') :
  Returns P T B φ H w f vs (.tup [(layGraph (H.new (.map (es.map entT))).2 H.nx n ls).1,.int k z]) (layGraph (H.new (.map (es.map entT))).2 H.nx n ls).2:=by
 refine ⟨henter,CallsIn.mono h ?_⟩
 rintro e w' ⟨v,H',⟨g,m,rs,ms,rfl,hg,hm,hp⟩,u,φ',rfl,hu,hS⟩
 obtain ⟨us,rfl,v1,r1,e1,hv1,v2,r2,e2,hv2,e3⟩:=hu
 obtain ⟨tb,hgo,_⟩:=hg.own
 obtain ⟨x,hx,hxe⟩:=id hv1
 obtain ⟨_,_,_,_,_,_,_,g4,_⟩:=hS.rel.obj g _ x hgo hx
 obtain ⟨v3,_,y,hy,_⟩:=g4 1 _ rfl
 have hom:=hS.rel.obj m _ y hm hy
 have hSy:w.heap.size≤y.c:=by obtain ⟨_,_,_,_,h⟩:=hom; exact h
 have A1:=(Anew.start (φ':=φ') hH hS.below).add hS.rel hy hSy (p:=m) (by simp) (by rw [hm]; simp) (fun q hq=>by cases hq) (o:=.map (es.map entT)) (map_also hom (hp.map _) (fun p hp=>by
  obtain ⟨t,_,rfl⟩:=List.mem_map.1 hp
  exact entT_also t) hH.base)
 obtain ⟨φd,L',h1,h2,h3⟩:=Anew.graph hS.rel hH.base A1 hg hv1 (fun q hq=>by
  rcases List.mem_cons.1 hq with rfl | hq
  ·exact ⟨_,hm⟩
  ·cases hq) (mc:=H.nx) (fun x hx=>by
  rw [hy] at hx
  cases hx
  exact Emb.put_same _ _ _)
 exact ⟨_,φd,rfl,⟨us,rfl,v1,r1,e1,h3,v2,r2,e2,hv2,e3⟩,⟨h1.ext,h1.rel,hS.below.mono hH.base⟩⟩
end
end Go.Am
end

section
namespace Go.Am
open Go Go.RowKit
def rowsZ (n:Nat) (es:List Trp) :List (List Int):=(List.range n).map fun i=>rowZ es (Int.ofNat i)
theorem rowsZ_length (n:Nat) (es:List Trp) :(rowsZ n es).length = n:=by simp [rowsZ]
theorem rowsZ_get {n:Nat} {es:List Trp} {i:Nat} (h:i < n) :(rowsZ n es)[i]? = some (rowZ es (Int.ofNat i)):=by simp [rowsZ,h]
def RowK (H:AHeap) (v:AVal) (l:List Int) :Prop:=(v = .snil∧l = [])∨∃ b,v = .sl b 0 l.length l.length 1∧PT.get b H.t = some (.cells (intVals l) true false)∧b.toNat < H.nx.toNat
theorem RowK.keep {H H':AHeap} {v:AVal} {l:List Int} {K:Nat} (h:RowK H v l) (k:Keep K H H') (hK:H.nx.toNat≤K) :RowK H' v l:=by
 rcases h with h | ⟨b,h1,h2,h3⟩
 ·exact .inl h
 ·exact .inr ⟨b,h1,by rw [k.get b (by omega)]; exact h2,Nat.lt_of_lt_of_le h3 k.nx⟩
theorem layRows_at:∀ (ls:List (List Int)) (H:AHeap),Keep H.nx.toNat H (layRows H ls).2∧(layRows H ls).1.length = ls.length∧∀ (i:Nat) (l:List Int),ls[i]? = some l→∃ v,(layRows H ls).1[i]? = some v∧RowK (layRows H ls).2 v l
 | [],H=>⟨Keep.refl _ _,rfl,fun i l h=>by simp at h⟩
 | [] :: ls,H=>by
  obtain ⟨h1,h2,h3⟩:=layRows_at ls H
  refine ⟨h1,by simp [layRows,h2],fun i l h=>?_⟩
  cases i with
  | zero =>
   simp only [List.getElem?_cons_zero,Option.some.injEq] at h
   subst h
   exact ⟨.snil,rfl,.inl ⟨rfl,rfl⟩⟩
  | succ i=>exact h3 i l (by simpa using h)
 | (a :: m) :: ls,H=>by
  obtain ⟨h1,h2,h3⟩:=layRows_at ls (H.new (.cells (intVals (a :: m)) true false)).2
  have hnx:(H.new (.cells (intVals (a :: m)) true false)).2.nx.toNat = H.nx.toNat + 1:=nx_new
  refine ⟨keep_new.trans (h1.mono (by rw [hnx]; omega)),by simp [layRows,h2],fun i l h=>?_⟩
  cases i with
  | zero =>
   simp only [List.getElem?_cons_zero,Option.some.injEq] at h
   subst h
   refine ⟨_,rfl,.inr ⟨H.nx,rfl,?_,?_⟩⟩
   ·show PT.get H.nx (layRows _ ls).2.t = _
    rw [h1.get H.nx (by rw [hnx]; omega)]
    exact get_new
   ·have:=h1.nx
    show H.nx.toNat < (layRows _ ls).2.nx.toNat
    omega
  | succ i=>exact h3 i l (by simpa using h)
structure GraphH (N:Nat) (H:AHeap) (v:AVal) (n:Nat) (es:List Trp) :Prop where
 ok:Edges n es
 at':∃ g m tb vs,v = .ptr g 0∧PT.get g H.t = some (.cells [.int .i64 (.ofNat n),.map m,.sl tb 0 n n 0] false false)∧PT.get tb H.t = some (.cells vs false false)∧PT.get m H.t = some (.map (es.map entT))∧vs.length = n ∧
  (∀ i,i < n→∃ u,vs[i]? = some u∧RowK H u (rowZ es (Int.ofNat i)))∧N≤g.toNat∧g.toNat < H.nx.toNat∧tb.toNat < H.nx.toNat∧m.toNat < H.nx.toNat
theorem GraphH.keep {N K:Nat} {H H':AHeap} {v:AVal} {n:Nat} {es:List Trp} (h:GraphH N H v n es) (k:Keep K H H') (hK:H.nx.toNat≤K) :GraphH N H' v n es:=by
 obtain ⟨ho,g,m,tb,vs,h1,h2,h3,h4,h5,h6,h7,h8,h9,h10⟩:=h
 have hx:=k.nx
 refine ⟨ho,g,m,tb,vs,h1,by rw [k.get g (by omega)]; exact h2,by rw [k.get tb (by omega)]; exact h3,by rw [k.get m (by omega)]; exact h4,h5,fun i hi=>?_,h7,by omega,by omega,by omega⟩
 obtain ⟨u,e1,e2⟩:=h6 i hi
 exact ⟨u,e1,e2.keep k hK⟩
theorem layGraph_at {H:AHeap} {m:Pos} {n:Nat} {es:List Trp} (ho:Edges n es) (hm:PT.get m H.t = some (.map (es.map entT))) (hml:m.toNat < H.nx.toNat) :
  GraphH H.nx.toNat (layGraph H m n (rowsZ n es)).2 (layGraph H m n (rowsZ n es)).1 n es∧Keep H.nx.toNat H (layGraph H m n (rowsZ n es)).2:=by
 obtain ⟨h1,h2,h3⟩:=layRows_at (rowsZ n es) H
 unfold layGraph
 simp only
 generalize layRows H (rowsZ n es) = R at h1 h2 h3 ⊢
 obtain ⟨vs,H1⟩:=R
 simp only at h1 h2 h3 ⊢
 have hx1:=h1.nx
 have k2:Keep H1.nx.toNat H1 (H1.new (.cells vs false false)).2:=keep_new
 have n2:(H1.new (.cells vs false false)).2.nx = H1.nx.succ:=rfl
 have k3:Keep H1.nx.succ.toNat (H1.new (.cells vs false false)).2 ((H1.new (.cells vs false false)).2.new (.cells [.int .i64 (.ofNat n),.map m,.sl H1.nx 0 n n 0] false false)).2:=keep_new (H:=(H1.new (.cells vs false false)).2)
 have hs:=Pos.toNat_succ H1.nx
 generalize hH3:((H1.new (.cells vs false false)).2.new (.cells [.int .i64 (.ofNat n),.map m,.sl H1.nx 0 n n 0] false false)).2 = H3 at k3 ⊢
 have n3:H3.nx.toNat = H1.nx.toNat + 2:=by rw [← hH3,nx_new,n2]; omega
 have kk:Keep H1.nx.toNat H1 H3:=k2.trans (k3.mono (by omega))
 refine ⟨⟨ho,H1.nx.succ,m,H1.nx,vs,rfl,?_,?_,?_,by rw [h2,rowsZ_length],fun i hi=>?_,by omega,by omega,by omega,by omega⟩,h1.trans (kk.mono hx1)⟩
 ·rw [← hH3]; exact get_new (H:=(H1.new (.cells vs false false)).2)
 ·rw [k3.get H1.nx (by omega)]; exact get_new
 ·rw [kk.get m (by omega),h1.get m hml]; exact hm
 ·obtain ⟨v,e1,e2⟩:=h3 i _ (rowsZ_get hi)
  exact ⟨v,e1,e2.keep kk (Nat.le_refl _)⟩
end Go.Am
end

section
namespace Go.Am
open Go
abbrev Prr:=Int × Int
def pairVals:List Prr→List AVal
 | []=>[]
 | p :: l=>.int .i64 p.1 :: .int .i64 p.2 :: pairVals l
abbrev cell2 (p:Prr) :List AVal:=[.int .i64 p.1,.int .i64 p.2]
theorem pairVals_length:∀ ps:List Prr,(pairVals ps).length = ps.length * 2
 | []=>rfl
 | p :: l=>by simp [pairVals,pairVals_length l]; omega
theorem pair_sub:∀ (ps:List Prr) (i:Nat) (h:i < ps.length),((pairVals ps).drop (i * 2)).take 2 = cell2 ps[i]
 | p :: l,0,_=>rfl
 | p :: l,i + 1,h=>by
  have:=pair_sub l i (by simpa using h)
  rw [show (i + 1) * 2 = i * 2 + 2 by omega]
  simpa [pairVals] using this
theorem pairVals_append:∀ (a b:List Prr),pairVals (a ++ b) = pairVals a ++ pairVals b
 | [],b=>rfl
 | p :: a,b=>by simp [pairVals,pairVals_append a b]
def PReads (n:Nat) (H:AHeap) (v:AVal) (ps:List Prr) :Prop :=
 (v = .snil∧ps = [])∨∃ b o cap sz,v = .sl b o ps.length cap sz∧hloadN H b o (ps.length * 2) = some (pairVals ps)∧b.toNat < n∧(sz = 0∨sz = 2)∧ps.length≤cap
theorem PReads.keep {n m:Nat} {H H':AHeap} {v:AVal} {l:List Prr} (h:PReads n H v l) (k:Keep m H H') (hm:n≤m) :PReads n H' v l:=by
 rcases h with h | ⟨b,o,cap,sz,e,h,hb⟩
 ·exact .inl h
 ·refine .inr ⟨b,o,cap,sz,e,?_,hb⟩
  unfold hloadN at h ⊢
  rw [k.get b (by omega)]
  exact h
theorem PReads.mono {n m:Nat} {H:AHeap} {v:AVal} {l:List Prr} (h:PReads n H v l) (hm:n≤m) :PReads m H v l:=by
 rcases h with h | ⟨b,o,cap,sz,e,h,hb,hr⟩
 ·exact .inl h
 ·exact .inr ⟨b,o,cap,sz,e,h,by omega,hr⟩
theorem PReads.fLen {n:Nat} {H:AHeap} {v:AVal} {l:List Prr} (h:PReads n H v l) :fLen H 1 v = some (.int .i64 (.ofNat l.length)):=by
 rcases h with ⟨rfl,rfl⟩ | ⟨b,o,cap,sz,rfl,h⟩ <;> rfl
theorem PReads.fIdx {n:Nat} {H:AHeap} {v:AVal} {l:List Prr} (h:PReads n H v l) {i:Nat} (hi:i < l.length) :∃ b o,fIdxS 2 v (.int .i64 (.ofNat i)) = some (.ptr b o)∧hloadN H b o 2 = some (cell2 l[i])∧b.toNat < n:=by
 rcases h with ⟨rfl,rfl⟩ | ⟨b,o,cap,sz,rfl,h,hb,_⟩
 ·simp at hi
 ·refine ⟨b,o + i * 2,?_,?_,hb⟩
  ·simp only [fIdxS,natOf,blt_t hi]
   rfl
  ·rw [hloadN_sub h (by omega),pair_sub l i hi]
theorem hload_sub {H:AHeap} {b:Pos} {o n:Nat} {l:List AVal} (h:hloadN H b o n = some l) {i:Nat} {v:AVal} (hv:l[i]? = some v) :hload H b (o + i) = some v:=by
 have hi:=(List.getElem?_eq_some_iff.1 hv).1
 unfold hloadN at h
 unfold hload
 split at h
 ·rename_i c op ro hb
  obtain ⟨e1,e2⟩:=lsub_eq h
  rw [e1,List.getElem?_take] at hv
  split at hv
  ·rw [List.getElem?_drop] at hv
   rw [lget_eq]
   exact hv
  ·cases hv
 ·cases h
def GN (k N:Nat) (H:AHeap) (v:AVal) (n:Nat) (cs:List AVal) :Prop :=
 cs.length = n * k∧((v = .snil∧n = 0)∨∃ b,v = .sl b 0 n n k∧PT.get b H.t = some (.cells cs true false)∧N≤b.toNat∧b.toNat < H.nx.toNat)
theorem GN.nil {k N:Nat} {H:AHeap} :GN k N H .snil 0 []:=⟨by simp,.inl ⟨rfl,rfl⟩⟩
theorem GN.keep {k N K:Nat} {H H':AHeap} {v:AVal} {n:Nat} {cs:List AVal} (h:GN k N H v n cs) (hk:Keep K H H') (hK:H.nx.toNat≤K) :GN k N H' v n cs:=by
 obtain ⟨h0,h | ⟨b,e,h1,h2,h3⟩⟩:=h
 ·exact ⟨h0,.inl h⟩
 ·exact ⟨h0,.inr ⟨b,e,by rw [hk.get b (by omega)]; exact h1,h2,Nat.lt_of_lt_of_le h3 hk.nx⟩⟩
theorem GN.len {k N:Nat} {H:AHeap} {v:AVal} {n:Nat} {cs:List AVal} (h:GN k N H v n cs) :fLen H 1 v = some (.int .i64 (.ofNat n)):=by
 obtain ⟨_,⟨rfl,rfl⟩ | ⟨b,rfl,_⟩⟩:=h <;> rfl
structure Fr (v:AVal) (H:AHeap) (v':AVal) (H':AHeap) :Prop where
 nx:H.nx.toNat≤H'.nx.toNat
 get:∀ p:Pos,p.toNat < H.nx.toNat→rowBlk v ≠ some p→PT.get p H'.t = PT.get p H.t
 own:∀ b:Pos,rowBlk v' = some b→rowBlk v = some b∨H.nx.toNat≤b.toNat
theorem Fr.refl (v:AVal) (H:AHeap) :Fr v H v H:=⟨Nat.le_refl _,fun _ _ _=>rfl,fun _ h=>.inl h⟩
theorem Fr.trans {v v1 v2:AVal} {H H1 H2:AHeap} (h:Fr v H v1 H1) (k:Fr v1 H1 v2 H2) :Fr v H v2 H2:=by
 refine ⟨Nat.le_trans h.nx k.nx,fun p hp hv=>?_,fun b hb=>?_⟩
 ·rw [k.get p (by have:=h.nx; omega) (fun e=>?_),h.get p hp hv]
  rcases h.own p e with e | e
  ·exact hv e
  ·omega
 ·rcases k.own b hb with e | e
  ·exact h.own b e
  ·exact .inr (by have:=h.nx; omega)
theorem Fr.of_keep {v:AVal} {H H':AHeap} (k:Keep H.nx.toNat H H') :Fr v H v H':=⟨k.nx,fun p hp _=>k.get p hp,fun _ h=>.inl h⟩
theorem GN.blk {k N:Nat} {H:AHeap} {v:AVal} {n:Nat} {cs:List AVal} (h:GN k N H v n cs) {b:Pos} (hb:rowBlk v = some b) :N≤b.toNat∧b.toNat < H.nx.toNat∧PT.get b H.t = some (.cells cs true false):=by
 obtain ⟨_,⟨rfl,_⟩ | ⟨c,rfl,h1,h2,h3⟩⟩:=h
 ·cases hb
 ·cases hb; exact ⟨h2,h3,h1⟩
theorem GN.keepFr {k N:Nat} {H H':AHeap} {v v':AVal} {n:Nat} {cs:List AVal} (h:GN k N H v n cs) (hN:N≤H.nx.toNat) (f:Fr v H v' H') :Keep N H H' :=
 ⟨f.nx,fun p hp=>f.get p (by omega) (fun e=>by have:=(h.blk e).1; omega)⟩
theorem append_gn {k by' N:Nat} (hk:0 < k) {H:AHeap} {v x:AVal} {n m:Nat} {cs c:List AVal} (h:GN k N H v n cs) (hN:N≤H.nx.toNat) (hx:srcCells H k x = some (m,c)) (hc:c.length = m * k) (hs:allScal c = true) (hb:(n + m) * 2 * by'≤281474976710656) :
  ∃ v' H',appendA H k by' v x = some (v',H')∧GN k N H' v' (n + m) (cs ++ c)∧Fr v H v' H':=by
 obtain ⟨hl,⟨rfl,rfl⟩ | ⟨b,rfl,h1,h2,h3⟩⟩:=h
 ·have hcs:cs = []:=by simpa using hl
  subst hcs
  cases m with
  | zero =>
   have:c = []:=by simpa using hc
   subst this
   refine ⟨.snil,H,?_,GN.nil,Fr.refl _ _⟩
   unfold appendA
   rw [hx]
  | succ m =>
   have e1:Nat.ble (Nat.mul (Nat.succ m) by') 281474976710656 = true:=ble_t (by
    rw [Nat.zero_add] at hb
    show (m + 1) * by'≤_
    have:(m + 1) * by'≤(m + 1) * 2 * by':=Nat.mul_le_mul_right _ (by omega)
    omega)
   refine ⟨.sl H.nx 0 (m + 1) (m + 1) k,(H.new (.cells c true false)).2,?_,⟨by simpa using hc,.inr ⟨H.nx,by simp,by simpa using get_new,hN,by rw [nx_new]; omega⟩⟩,⟨keep_new.nx,fun p hp _=>keep_new.get p hp,fun b hb=>by cases hb; exact .inr (Nat.le_refl _)⟩⟩
   unfold appendA
   rw [hx]
   simp only [e1]
   rfl
 ·unfold appendA
  rw [hx]
  cases m with
  | zero =>
   have:c = []:=by simpa using hc
   subst this
   have e1:Nat.ble (Nat.add n 0) n = true:=ble_t (Nat.le_refl _)
   have e2:hstoreN H b (Nat.add 0 (Nat.mul n k)) [] = some (H.upd b (.cells cs true false)):=by
    unfold hstoreN
    rw [h1]
    have hs:allScal ([] :List AVal) = true:=rfl
    simp only [hs]
    rw [lput_of _ _ _ (by show Nat.add 0 (Nat.mul n k) + 0≤_; rw [hl]; show 0 + n * k + 0≤_; omega)]
    simp
   refine ⟨.sl b 0 (Nat.add n 0) n k,H.upd b (.cells cs true false),by simp only [e1,e2],⟨by simpa using hl,.inr ⟨b,by simp,by simpa using get_upd,h2,h3⟩⟩,⟨Nat.le_refl _,fun p _ hv=>get_upd_other (fun e=>hv (by rw [e]; rfl)),fun c hc=>.inl hc⟩⟩
  | succ m =>
   have e1:Nat.ble (Nat.add n (m + 1)) n = false:=ble_f (by show n < n + (m + 1); omega)
   have e2:hloadN H b 0 (Nat.mul n k) = some cs:=by
    rw [hloadN_at h1 (by rw [hl]; show 0 + n * k≤_; omega),List.drop_zero,List.take_of_length_le (by rw [hl]; exact Nat.le_refl _)]
   have e3:Nat.ble (Nat.mul (Nat.mul (Nat.add n (m + 1)) 2) by') 281474976710656 = true:=ble_t hb
   obtain ⟨k',rfl⟩ :∃ k',k = k' + 1:=⟨k - 1,by omega⟩
   have e4:Nat.beq (Nat.succ k') (k' + 1) = true:=by simp
   have hnx:((H.kill b).new (.cells (cs ++ c) true false)).2.nx.toNat = H.nx.toNat + 1:=by rw [nx_new]; rfl
   refine ⟨.sl H.nx 0 (n + (m + 1)) (n + (m + 1)) (k' + 1),((H.kill b).new (.cells (cs ++ c) true false)).2,?_,⟨?_,.inr ⟨H.nx,rfl,get_new (H:=H.kill b),hN,by rw [hnx]; omega⟩⟩,⟨by rw [hnx]; omega,fun p hp hv=>?_,fun c hc=>by cases hc; exact .inr (Nat.le_refl _)⟩⟩
   ·simp only [e1,e2,e3,h1,e4,hs]
    rfl
   ·rw [List.length_append,hl,hc,← Nat.add_mul]
   ·have hne:b ≠ p:=fun e=>hv (by rw [e]; rfl)
    rw [get_new_other (H:=H.kill b) (fun e=>by rw [e] at hp; have:(H.kill b).nx.toNat = H.nx.toNat:=rfl; omega)]
    exact PT.get_set_other _ _ _ _ hne
theorem GN.preads {N:Nat} {H:AHeap} {v:AVal} {ps:List Prr} (h:GN 2 N H v ps.length (pairVals ps)) :PReads H.nx.toNat H v ps:=by
 obtain ⟨hl,⟨rfl,h⟩ | ⟨b,rfl,h1,h2,h3⟩⟩:=h
 ·exact .inl ⟨rfl,List.length_eq_zero_iff.1 h⟩
 ·refine .inr ⟨b,0,_,2,rfl,?_,h3,.inr rfl,Nat.le_refl _⟩
  rw [hloadN_at h1 (by omega),List.drop_zero,List.take_of_length_le (by omega)]
theorem GN.treads {N:Nat} {H:AHeap} {v:AVal} {ts:List Trp} (h:GN 3 N H v ts.length (tripVals ts)) :TReads H.nx.toNat H v ts:=by
 obtain ⟨hl,⟨rfl,h⟩ | ⟨b,rfl,h1,h2,h3⟩⟩:=h
 ·exact .inl ⟨rfl,List.length_eq_zero_iff.1 h⟩
 ·refine .inr ⟨b,0,_,3,rfl,?_,h3,.inr rfl,Nat.le_refl _⟩
  rw [hloadN_at h1 (by omega),List.drop_zero,List.take_of_length_le (by omega)]
end Go.Am
end
