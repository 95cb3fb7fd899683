/- Part of the proof: AmDraw1, AmDraw2, AmDraw3, AmDraw4. -/
import Derived.Test.YtaogphcjlkeakaaGreatDoorAm12
import Derived.OrdersIn
set_option linter.unusedSimpArgs false
set_option linter.unusedVariables false
section
namespace Go.Am
open Go Go.RowKit
section
variable {t t':PT AVal} {H:AHeap}
def Agree (t t':PT AVal) (l:List Pos) :Prop:=∀ p ∈ l,tget t p = tget t' p
theorem Agree.left {l m:List Pos} (h:Agree t t' (l ++ m)) :Agree t t' l:=fun p hp=>h p (List.mem_append_left _ hp)
theorem Agree.right {l m:List Pos} (h:Agree t t' (l ++ m)) :Agree t t' m:=fun p hp=>h p (List.mem_append_right _ hp)
theorem Agree.ev {x:AOpnd} (h:Agree t t' x.tmp) :x.ev t = x.ev t':=by
 cases x with
 | t p=>exact h p (by simp [AOpnd.tmp])
 | c v=>rfl
theorem Agree.evs:∀ {l:List AOpnd},Agree t t' (tmpsL l)→evs t l = evs t' l
 | [],_=>rfl
 | x :: l,h=>by simp only [Am.evs,Agree.ev (Agree.left h),Agree.evs (Agree.right h)]
theorem Agree.fill:∀ {ps:List (Nat × Nat × AOpnd)} {z:List AVal},Agree t t' (tmpsP ps)→fillA z t ps = fillA z t' ps
 | [],_,_=>rfl
 | (off,size,x) :: ps,z,h=>by
  simp only [fillA,Agree.ev (Agree.left h)]
  split
  ·split
   ·split
    ·exact Agree.fill (Agree.right h)
    ·rfl
   ·rfl
  ·rfl
theorem Agree.bound {x:Option AOpnd} {d m:Nat} (h:Agree t t' (tmpsO x)) :boundOf t x d m = boundOf t' x d m:=by
 cases x with
 | none=>rfl
 | some o=>simp only [boundOf,Agree.ev (x:=o) h]
theorem Agree.slice {k:ASlk} {x:AVal} {lo hi mx:Option AOpnd} (h1:Agree t t' (tmpsO lo)) (h2:Agree t t' (tmpsO hi)) (h3:Agree t t' (tmpsO mx)) :sliceA t k x lo hi mx = sliceA t' k x lo hi mx:=by
 have e1:∀ d m,boundOf t lo d m = boundOf t' lo d m:=fun d m=>Agree.bound h1
 have e2:∀ d m,boundOf t hi d m = boundOf t' hi d m:=fun d m=>Agree.bound h2
 have e3:∀ d m,boundOf t mx d m = boundOf t' mx d m:=fun d m=>Agree.bound h3
 unfold sliceA
 simp only [e1,e2,e3]
theorem quiet_congr {op:AOp} (h:Agree t t' op.tmps) :quiet t H op = quiet t' H op:=by
 cases op with
 | move x=>simp only [quiet,Agree.ev (x:=x) h]
 | pick c a b=>simp only [quiet,Agree.ev (x:=c) h.left,Agree.ev (x:=a) h.right.left,Agree.ev (x:=b) h.right.right]
 | build z ps=>simp only [quiet,Agree.fill (ps:=ps) h]
 | load1 x=>simp only [quiet,Agree.ev (x:=x) h]
 | loadN n x=>simp only [quiet,Agree.ev (x:=x) h]
 | nilCheck x=>simp only [quiet,Agree.ev (x:=x) h]
 | bin op x y=>simp only [quiet,Agree.ev (x:=x) h.left,Agree.ev (x:=y) h.right]
 | eq neg k x y=>simp only [quiet,Agree.ev (x:=x) h.left,Agree.ev (x:=y) h.right]
 | un op x=>simp only [quiet,Agree.ev (x:=x) h]
 | conv c x=>simp only [quiet,Agree.ev (x:=x) h]
 | fieldAddr off x=>simp only [quiet,Agree.ev (x:=x) h]
 | idxS sz x i=>simp only [quiet,Agree.ev (x:=x) h.left,Agree.ev (x:=i) h.right]
 | idxA n sz x i=>simp only [quiet,Agree.ev (x:=x) h.left,Agree.ev (x:=i) h.right]
 | field1 off x=>simp only [quiet,Agree.ev (x:=x) h]
 | fieldN off n x=>simp only [quiet,Agree.ev (x:=x) h]
 | idxStr x i=>simp only [quiet,Agree.ev (x:=x) h.left,Agree.ev (x:=i) h.right]
 | idxArr n x i=>simp only [quiet,Agree.ev (x:=x) h.left,Agree.ev (x:=i) h.right]
 | slice k x lo hi mx=>simp only [quiet,Agree.ev (x:=x) h.left,Agree.slice (k:=k) h.right.left h.right.right.left h.right.right.right]
 | s2ap n x=>simp only [quiet,Agree.ev (x:=x) h]
 | mkI ty x=>simp only [quiet,Agree.ev (x:=x) h]
 | mkF f a b=>simp only [quiet,Agree.evs (l:=a) h.left,Agree.evs (l:=b) h.right]
 | lookup q z x k ok=>simp only [quiet,Agree.ev (x:=x) h.left,Agree.ev (x:=k) h.right]
 | extract x i=>simp only [quiet,Agree.ev (x:=x) h]
 | len k x=>simp only [quiet,Agree.ev (x:=x) h]
 | mm b l=>simp only [quiet,Agree.evs (l:=l) h]
 | _=>rfl
theorem write_congr {op:AOp} (h:Agree t t' op.tmps) :write t H op = write t' H op:=by
 have hq:=quiet_congr (H:=H) h
 cases op with
 | alloc z=>rfl
 | box x=>simp only [write,Agree.ev (x:=x) h]
 | buildSlice z len ps=>simp only [write,Agree.fill (ps:=ps) h]
 | store n x y=>simp only [write,Agree.ev (x:=x) h.left,Agree.ev (x:=y) h.right]
 | conv c x=>cases c with
  | strBytes=>simp only [write,Agree.ev (x:=x) h]
  | mark=>simp only [write,Agree.ev (x:=x) h]
  | toInt k=>simp only [write,hq]
  | bytesStr=>simp only [write,hq]
  | same=>simp only [write,hq]
 | clear z x=>simp only [write,Agree.ev (x:=x) h]
 | mkMap=>rfl
 | mkSlice z b l c=>simp only [write,Agree.ev (x:=l) h.left,Agree.ev (x:=c) h.right]
 | mapUpdate q m k v=>simp only [write,turnKey,Agree.ev (x:=m) h.left,Agree.ev (x:=k) h.right.left,Agree.ev (x:=v) h.right.right]
 | append a b x y=>simp only [write,Agree.ev (x:=x) h.left,Agree.ev (x:=y) h.right]
 | copy a x y=>simp only [write,Agree.ev (x:=x) h.left,Agree.ev (x:=y) h.right]
 | _=>simp only [write,hq]
theorem execA_congr {E:Env} {rec:Rec} {op:AOp} (h:Agree t t' op.tmps) :execA E rec t H op = execA E rec t' H op:=by
 have hw:=write_congr (H:=H) h
 cases op with
 | callF f l=>simp only [execA,Agree.evs (l:=l) h]
 | callV f l=>simp only [execA,Agree.ev (x:=f) h.left,Agree.evs (l:=l) h.right]
 | _=>exact hw
theorem wantedA_congr {g:Option (Pos × Bool)} (h:∀ p ∈ tmpsG g,PT.get p t = PT.get p t') :wantedA t g = wantedA t' g:=by
 cases g with
 | none=>rfl
 | some g=>simp only [wantedA,h g.1 (by simp [tmpsG])]
end
def HLe (H H':AHeap) :Prop:=∀ p o,PT.get p H.t = some o→PT.get p H'.t = some o
section
variable {t:PT AVal} {H H':AHeap}
theorem hload_mono (h:HLe H H') {b:Pos} {o:Nat} {v:AVal} (e:hload H b o = some v) :hload H' b o = some v:=by
 unfold hload at e ⊢
 split at e
 ·rename_i hb; rw [h _ _ hb]; exact e
 ·cases e
theorem hloadN_mono (h:HLe H H') {b:Pos} {o n:Nat} {v:List AVal} (e:hloadN H b o n = some v) :hloadN H' b o n = some v:=by
 unfold hloadN at e ⊢
 split at e
 ·rename_i hb; rw [h _ _ hb]; exact e
 ·cases e
theorem live_mono (h:HLe H H') {b:Pos} (e:live H b = true) :live H' b = true:=by
 unfold live at e ⊢
 split at e
 ·rename_i hb; rw [h _ _ hb]
 ·cases e
theorem eqS_mono (h:HLe H H') {q:EqK} {x y:AVal} {r:Bool} (e:eqS H q x y = some r) :eqS H' q x y = some r:=by
 cases q with
 | ptr =>
  simp only [eqS] at e ⊢
  split at e
  ·exact e
  ·exact e
  ·exact e
  ·split at e
   ·exact e
   ·split at e
    ·rename_i l1 l2
     simp only [live_mono h l1,live_mono h l2]
     exact e
    ·cases e
  ·cases e
 | _=>exact e
theorem eqL_mono (h:HLe H H') :∀ {qs:List EqK} {l m:List AVal} {r:Bool},eqL H qs l m = some r→eqL H' qs l m = some r
 | [],[],[],r,e=>e
 | q :: qs,a :: l,b :: m,r,e=>by
  simp only [eqL] at e ⊢
  split at e
  ·rename_i hq; rw [eqS_mono h hq]; exact eqL_mono h e
  ·rename_i hq; rw [eqS_mono h hq]; exact e
  ·cases e
 | [],_ :: _,_,_,e=>by simp [eqL] at e
 | [],[],_ :: _,_,e=>by simp [eqL] at e
 | _ :: _,[],_,_,e=>by simp [eqL] at e
 | _ :: _,_ :: _,[],_,e=>by simp [eqL] at e
theorem eqV_mono (h:HLe H H') {k:EqKs} {x y:AVal} {r:Bool} (e:eqV H k x y = some r) :eqV H' k x y = some r:=by
 cases k with
 | one q=>exact eqS_mono h e
 | cells qs =>
  simp only [eqV] at e ⊢
  split at e
  ·exact eqL_mono h e
  ·cases e
theorem findKey_mono (h:HLe H H') {q:EqK} {k:AVal} :∀ {es:List (AVal × AVal)} {r:Option AVal},findKey H q k es = some r→findKey H' q k es = some r
 | [],r,e=>e
 | (k',v) :: es,r,e=>by
  simp only [findKey] at e ⊢
  split at e
  ·rename_i hq
   rw [eqS_mono h hq]
   split at e
   ·rename_i hf
    simp only [findKey_mono h hf]
    exact e
   ·cases e
  ·rename_i hq
   rw [eqS_mono h hq]
   exact findKey_mono h e
  ·cases e
def lookA0 (H:AHeap) (q:EqK) (k:AVal) :AVal→Option (Option AVal)
 | .mnil=>some none
 | .map b=>match entries (PT.get b H.t) with
  | some es=>findKey H q k es
  | _=>none
 | _=>none
def lookA (H:AHeap) (q:EqK) (k X:AVal) :Option (Option AVal):=match keyFit q k with | true=>lookA0 H q k X | false=>none
theorem quiet_lookA {q:EqK} {z:AVal} {x k:AOpnd} {ok:Bool} :quiet t H (.lookup q z x k ok) = (match lookA H q (k.ev t) (x.ev t) with
  | some (some v)=>some (match ok with | true=>.tup [v,.bool true] | false=>v)
  | some none=>some (match ok with | true=>.tup [z,.bool false] | false=>z)
  | none=>none):=by
 simp only [quiet,lookA]
 cases keyFit q (k.ev t)
 ·rfl
 ·simp only [lookA0]
  cases x.ev t <;> rfl
theorem entries_mono (h:HLe H H') {b:Pos} {es:List (AVal × AVal)} (e:entries (PT.get b H.t) = some es) :entries (PT.get b H'.t) = some es:=by
 cases hb:PT.get b H.t with
 | none=>rw [hb] at e; cases e
 | some o=>rw [h _ _ hb]; rw [hb] at e; exact e
theorem lookA_mono (h:HLe H H') {q:EqK} {k X:AVal} {r:Option AVal} (hr:lookA H q k X = some r) :lookA H' q k X = some r:=by
 unfold lookA at hr ⊢
 cases hfit:keyFit q k with
 | false=>rw [hfit] at hr; cases hr
 | true =>
 rw [hfit] at hr
 simp only at hr ⊢
 cases X with
 | mnil=>exact hr
 | map b =>
  simp only [lookA0] at hr ⊢
  split at hr
  ·rename_i hb; rw [entries_mono h hb]; exact findKey_mono h hr
  ·cases hr
 | _=>cases hr
theorem quiet_mono (h:HLe H H') {op:AOp} {v:AVal} (e:quiet t H op = some v) :quiet t H' op = some v:=by
 cases op with
 | load1 x =>
  simp only [quiet] at e ⊢
  split at e
  ·exact hload_mono h e
  ·cases e
 | loadN n x =>
  simp only [quiet] at e ⊢
  split at e
  ·split at e
   ·rename_i hl; rw [hloadN_mono h hl]; exact e
   ·cases e
  ·cases e
 | eq neg k x y =>
  simp only [quiet] at e ⊢
  split at e
  ·rename_i hq; rw [eqV_mono h hq]; exact e
  ·cases e
 | conv c x =>
  cases c with
  | bytesStr =>
   simp only [quiet] at e ⊢
   split at e
   ·exact e
   ·split at e
    ·rename_i hl; rw [hloadN_mono h hl]; exact e
    ·cases e
   ·cases e
  | _=>exact e
 | lookup q z x k ok =>
  rw [quiet_lookA] at e ⊢
  split at e
  ·rename_i hr; rw [lookA_mono h hr]; exact e
  ·rename_i hr; rw [lookA_mono h hr]; exact e
  ·cases e
 | len k x =>
  simp only [quiet] at e ⊢
  split at e
  ·exact e
  ·exact e
  ·split at e
   ·exact e
   ·split at e
    ·rename_i hb; rw [entries_mono h hb]; exact e
    ·cases e
   ·cases e
 | _=>exact e
end
end Go.Am
end

section
namespace Go.Am
open Go Go.RowKit
theorem hasB_iff (m b:Nat) :hasB m b = true ↔ ∀ i,b.testBit i = true→m.testBit i = true:=by
 unfold hasB
 have h0:Nat.beq (Nat.land m b) b = true ↔ (m &&& b) = b:=⟨fun h=>Nat.eq_of_beq_eq_true h,fun h=>by
  have:Nat.land m b = b:=h
  rw [this]; exact Nat.beq_refl b⟩
 rw [h0]
 constructor
 ·intro h i hi
  have:=congrArg (fun z=>z.testBit i) h
  simp only [Nat.testBit_and,hi,Bool.and_true] at this
  exact this
 ·intro h
  apply Nat.eq_of_testBit_eq
  intro i
  rw [Nat.testBit_and]
  cases hb:b.testBit i with
  | false=>simp
  | true=>simp [h i hb]
theorem testBit_two_pow' (i j:Nat) :(2 ^ i).testBit j = true ↔ i = j:=by
 rw [Nat.testBit_two_pow]; simp
theorem hasB_bit (m i:Nat) :hasB m (2 ^ i) = true ↔ m.testBit i = true:=by
 rw [hasB_iff]
 exact ⟨fun h=>h i ((testBit_two_pow' i i).2 rfl),fun h j hj=>by rw [← (testBit_two_pow' i j).1 hj]; exact h⟩
theorem landZero_iff (m i:Nat) :Nat.beq (Nat.land m (2 ^ i)) 0 = true ↔ m.testBit i = false:=by
 have h0:Nat.beq (Nat.land m (2 ^ i)) 0 = true ↔ (m &&& 2 ^ i) = 0:=⟨fun h=>Nat.eq_of_beq_eq_true h,fun h=>by
  have:Nat.land m (2 ^ i) = 0:=h
  rw [this]; rfl⟩
 rw [h0]
 constructor
 ·intro h
  have:=congrArg (fun z=>z.testBit i) h
  simp only [Nat.testBit_and,(testBit_two_pow' i i).2 rfl,Bool.and_true,Nat.zero_testBit] at this
  exact this
 ·intro h
  apply Nat.eq_of_testBit_eq
  intro j
  rw [Nat.testBit_and,Nat.zero_testBit]
  by_cases e:i = j
  ·subst e; simp [h]
  ·have:(2 ^ i).testBit j = false:=by
    cases hb:(2 ^ i).testBit j with
    | false=>rfl
    | true=>exact absurd ((testBit_two_pow' i j).1 hb) e
   simp [this]
theorem lor_bit (m i j:Nat) :(Nat.lor m (2 ^ i)).testBit j = true ↔ m.testBit j = true∨i = j:=by
 show (m ||| 2 ^ i).testBit j = true ↔ _
 rw [Nat.testBit_or,Bool.or_eq_true,testBit_two_pow']
structure DOk (T:Tys) (nt:Nat) (ops:List Oper) (e:ADraw) :Prop where
 op:∃ o,ops[e.idx]? = some o∧compOper T nt ops o = some e.o∧e.need = needOf o.after.toList
 cls:e.cls = clsOf e.o.op
 bit:e.bit = 2 ^ e.idx
theorem compDraws_ok {T:Tys} {nt:Nat} {ops:List Oper} :∀ {l:List Oper} {i:Nat} {before:List Nat} {D:List ADraw},compDraws T nt ops l i before = some D→(∀ j,l[j]? = ops[i + j]?) →
  (∀ e ∈ D,DOk T nt ops e∧i≤e.idx)∧(∀ e ∈ D,∀ f ∈ D,e.idx = f.idx→e = f)
 | [],i,before,D,h,_=>by
  simp [compDraws] at h
  subst h
  exact ⟨by simp,by simp⟩
 | o :: l,i,before,D,h,hl=>by
  simp only [compDraws] at h
  split at h
  ·rename_i ao hao
   split at h
   ·rename_i m hm
    cases h
    obtain ⟨g1,g2⟩:=compDraws_ok hm (fun j=>by
     have:=hl (j + 1)
     simp only [List.getElem?_cons_succ] at this
     rw [this]; congr 1; omega)
    have h0:ops[i]? = some o:=by have:=hl 0; simpa using this.symm
    refine ⟨?_,?_⟩
    ·intro e he
     rcases List.mem_cons.1 he with rfl | he
     ·exact ⟨⟨⟨o,h0,hao,rfl⟩,rfl,rfl⟩,Nat.le_refl _⟩
     ·exact ⟨(g1 e he).1,by have:=(g1 e he).2; omega⟩
    ·intro e he f hf hef
     rcases List.mem_cons.1 he with rfl | he
     ·rcases List.mem_cons.1 hf with rfl | hf
      ·rfl
      ·have:=(g1 f hf).2; simp only at hef; omega
     ·rcases List.mem_cons.1 hf with rfl | hf
      ·have:=(g1 e he).2; simp only at hef; omega
      ·exact g2 e he f hf hef
   ·cases h
  ·cases h
theorem phase_sub {D:List ADraw} {k:Nat} {b:Bool} :∀ {l:List ADraw},∀ e ∈ phase D k b l,e ∈ l
 | [],e,h=>by simp [phase] at h
 | d :: l,e,h=>by
  simp only [phase] at h
  split at h
  ·rcases List.mem_cons.1 h with rfl | h
   ·simp
   ·exact List.mem_cons_of_mem _ (phase_sub e h)
  ·exact List.mem_cons_of_mem _ (phase_sub e h)
theorem phases_sub {D:List ADraw} :∀ {k:Nat},∀ e ∈ phases D k,e ∈ D
 | 0,e,h=>by
  simp only [phases,List.mem_append] at h
  rcases h with h | h <;> exact phase_sub e h
 | k + 1,e,h=>by
  simp only [phases,List.mem_append] at h
  rcases h with h | h | h
  ·exact phases_sub e h
  ·exact phase_sub e h
  ·exact phase_sub e h
theorem closure_mem {need:Nat} {i:Nat} :∀ {D:List ADraw},(∀ x ∈ D,x.bit = 2 ^ x.idx)→(closure D need).testBit i = true→need.testBit i = true∨∃ x ∈ D,need.testBit x.idx = true∧x.ahead.testBit i = true
 | [],_,h=>by simp [closure] at h
 | x :: l,hb,h=>by
  have hx:=hb x (by simp)
  simp only [closure] at h
  split at h
  ·rename_i hn
   rw [hx,hasB_bit] at hn
   have h:((x.bit ||| x.ahead) ||| closure l need).testBit i = true:=h
   rw [Nat.testBit_or,Nat.testBit_or,Bool.or_eq_true,Bool.or_eq_true] at h
   rcases h with (h | h) | h
   ·rw [hx,testBit_two_pow'] at h
    left; rw [← h]; exact hn
   ·exact .inr ⟨x,by simp,hn,h⟩
   ·rcases closure_mem (fun y hy=>hb y (List.mem_cons_of_mem _ hy)) h with h | ⟨y,hy,h⟩
    ·exact .inl h
    ·exact .inr ⟨y,List.mem_cons_of_mem _ hy,h⟩
  ·rcases closure_mem (fun y hy=>hb y (List.mem_cons_of_mem _ hy)) h with h | ⟨y,hy,h⟩
   ·exact .inl h
   ·exact .inr ⟨y,List.mem_cons_of_mem _ hy,h⟩
structure EOk (D done:List ADraw) (e:ADraw) :Prop where
 new:∀ x ∈ done,x.idx ≠ e.idx
 need:∀ i,e.need.testBit i = true→∃ x ∈ done,x.idx = i
 loud:∀ x ∈ done,x.cls = 2→e.ahead.testBit x.idx = true
 dep:∀ p ∈ e.o.tmps,∀ x ∈ D,x.o.dst = some p→x.idx = e.idx∨e.ahead.testBit x.idx = true∨x.ahead.testBit e.idx = true
 dst:∀ x ∈ D,x.idx = e.idx∨∀ p,x.o.dst = some p→e.o.dst ≠ some p
 clo:∀ i,e.ahead.testBit i = true→e.need.testBit i = true∨∃ x ∈ D,e.need.testBit x.idx = true∧x.ahead.testBit i = true
theorem schedOk_ok {D:List ADraw} {n:Nat} (hb:∀ x ∈ D,x.bit = 2 ^ x.idx) :∀ {l done:List ADraw} {M ML:Nat},schedOk D n l M ML = true→(∀ x ∈ l,x ∈ D)→(∀ i,M.testBit i = true ↔ ∃ x ∈ done,x.idx = i)→(∀ i,ML.testBit i = true ↔ ∃ x ∈ done,x.cls = 2∧x.idx = i) →
  (∀ l1 e l2,l = l1 ++ e :: l2→EOk D (done ++ l1) e)∧∀ i,i < n→∃ x ∈ done ++ l,x.idx = i
 | [],done,M,ML,h,_,hM,_=>by
  refine ⟨fun l1 e l2 h=>(by simp at h),fun i hi=>?_⟩
  simp only [schedOk] at h
  have h:=Nat.eq_of_beq_eq_true h
  rw [List.append_nil,← hM i,h]
  show (2 ^ n - 1).testBit i = true
  rw [Nat.testBit_two_pow_sub_one]; simpa using hi
 | e :: l,done,M,ML,h,hl,hM,hML=>by
  simp only [schedOk,Bool.and_eq_true] at h
  obtain ⟨⟨h1,h2,h3,h4,h5,h6⟩,h7⟩:=h
  have he:=hl e (by simp)
  have hbe:=hb e he
  rw [hbe,landZero_iff] at h1
  have heok:EOk D done e:=by
   refine ⟨fun x hx hxe=>?_,fun i hi=>(hM i).1 ((hasB_iff _ _).1 h2 i hi),fun x hx hc=>(hasB_iff _ _).1 h3 _ ((hML _).2 ⟨x,hx,hc,rfl⟩),fun p hp x hx hd=>?_,fun x hx=>?_,fun i hi=>closure_mem hb ((hasB_iff _ _).1 h6 i hi)⟩
   ·have:=(hM e.idx).2 ⟨x,hx,hxe⟩
    rw [h1] at this; cases this
   ·have:=List.all_eq_true.1 (List.all_eq_true.1 h4 p hp) x hx
    rw [hd] at this
    simp only [Pos.beq_eq.2 rfl] at this
    rw [Bool.or_eq_true,Bool.or_eq_true,hb x hx,hbe,hasB_bit,hasB_bit] at this
    rcases this with h | h | h
    ·exact .inl (Nat.eq_of_beq_eq_true h)
    ·exact .inr (.inl h)
    ·exact .inr (.inr h)
   ·have:=List.all_eq_true.1 h5 x hx
    rw [Bool.or_eq_true] at this
    rcases this with h | h
    ·exact .inl (Nat.eq_of_beq_eq_true h)
    ·right
     intro p hp hq
     rw [hp,hq] at h
     simp [Pos.beq_eq.2 rfl] at h
  obtain ⟨g1,g2⟩:=schedOk_ok (done:=done ++ [e]) hb h7 (fun x hx=>hl x (List.mem_cons_of_mem _ hx)) (fun i=>by
   rw [hbe,lor_bit,hM i]
   constructor
   ·rintro (⟨x,hx,h⟩ | h)
    ·exact ⟨x,List.mem_append_left _ hx,h⟩
    ·exact ⟨e,by simp,h⟩
   ·rintro ⟨x,hx,h⟩
    rcases List.mem_append.1 hx with hx | hx
    ·exact .inl ⟨x,hx,h⟩
    ·simp at hx; subst hx; exact .inr h) (fun i=>by
   split
   ·rename_i hc
    have hc:=Nat.eq_of_beq_eq_true hc
    rw [hbe,lor_bit,hML i]
    constructor
    ·rintro (⟨x,hx,h⟩ | h)
     ·exact ⟨x,List.mem_append_left _ hx,h⟩
     ·exact ⟨e,by simp,hc,h⟩
    ·rintro ⟨x,hx,h⟩
     rcases List.mem_append.1 hx with hx | hx
     ·exact .inl ⟨x,hx,h⟩
     ·simp at hx; subst hx; exact .inr h.2
   ·rename_i hc
    rw [hML i]
    constructor
    ·rintro ⟨x,hx,h⟩
     exact ⟨x,List.mem_append_left _ hx,h⟩
    ·rintro ⟨x,hx,h⟩
     rcases List.mem_append.1 hx with hx | hx
     ·exact ⟨x,hx,h⟩
     ·simp at hx; subst hx
      rw [h.1] at hc
      exact absurd (Nat.beq_refl 2) (by rw [hc]; simp))
  refine ⟨fun l1 e' l2 hl'=>?_,fun i hi=>?_⟩
  ·cases l1 with
   | nil =>
    simp at hl'
    obtain ⟨rfl,_⟩:=hl'
    simpa using heok
   | cons y l1 =>
    simp at hl'
    obtain ⟨rfl,hl'⟩:=hl'
    have:=g1 l1 e' l2 hl'
    simpa using this
  ·obtain ⟨x,hx,h⟩:=g2 i hi
   exact ⟨x,by simpa using hx,h⟩
end Go.Am
end

section
namespace Go.Am
open Go Go.RowKit
def tab (L:Nat→Bool) :PT AVal→List (ADraw × AVal)→PT AVal
 | t,[]=>t
 | t,(e,v) :: l=>tab L (match L e.idx with | true=>tput t e.o.dst v | false=>t) l
theorem tab_append (L:Nat→Bool) :∀ (t:PT AVal) (l:List (ADraw × AVal)) (e:ADraw) (v:AVal),tab L t (l ++ [(e,v)]) = (match L e.idx with | true=>tput (tab L t l) e.o.dst v | false=>tab L t l)
 | t,[],e,v=>by simp only [List.nil_append,tab]
 | t,(e',v') :: l,e,v=>by simp only [List.cons_append,tab]; exact tab_append L _ l e v
theorem tab_congr {L L':Nat→Bool} :∀ {l:List (ADraw × AVal)} {t:PT AVal},(∀ x ∈ l,L x.1.idx = L' x.1.idx)→tab L t l = tab L' t l
 | [],_,_=>rfl
 | (e,v) :: l,t,h=>by
  simp only [tab]
  rw [h (e,v) (by simp)]
  exact tab_congr fun x hx=>h x (List.mem_cons_of_mem _ hx)
theorem get_tput_other {t:PT AVal} {d:Option Pos} {v:AVal} {p:Pos} (h:d ≠ some p) :PT.get p (tput t d v) = PT.get p t:=by
 cases d with
 | none=>rfl
 | some q=>exact PT.get_set_other _ _ _ _ (fun e=>h (by rw [e]))
theorem get_tput_same {t:PT AVal} {v:AVal} {p:Pos} :PT.get p (tput t (some p) v) = some v:=PT.get_set_same _ _ _
theorem tab_get_congr {L L':Nat→Bool} {p:Pos} :∀ {l:List (ADraw × AVal)} {t t':PT AVal},PT.get p t = PT.get p t'→(∀ x ∈ l,x.1.o.dst = some p→L x.1.idx = L' x.1.idx)→PT.get p (tab L t l) = PT.get p (tab L' t' l)
 | [],_,_,h,_=>h
 | (e,v) :: l,t,t',h,hl=>by
  simp only [tab]
  refine tab_get_congr ?_ fun x hx=>hl x (List.mem_cons_of_mem _ hx)
  by_cases hd:e.o.dst = some p
  ·rw [← hl (e,v) (by simp) hd,hd]
   cases L e.idx
   ·exact h
   ·rw [get_tput_same,get_tput_same]
  ·cases L e.idx <;> cases L' e.idx <;> simp only [get_tput_other hd] <;> exact h
theorem tab_get_none {L:Nat→Bool} {p:Pos} {l:List (ADraw × AVal)} {t:PT AVal} (h:∀ x ∈ l,x.1.o.dst = some p→L x.1.idx = false) :PT.get p (tab L t l) = PT.get p t:=by
 have:PT.get p (tab L t l) = PT.get p (tab (fun _=>false) t l):=tab_get_congr rfl h
 rw [this]
 clear this h
 induction l generalizing t with
 | nil=>rfl
 | cons x l ih=>simp only [tab]; exact ih
theorem tab_get_some {L:Nat→Bool} {p:Pos} {e:ADraw} {v:AVal} :∀ {l:List (ADraw × AVal)} {t:PT AVal},(e,v) ∈ l→e.o.dst = some p→L e.idx = true→(∀ x ∈ l,x.1.o.dst = some p→x = (e,v))→PT.get p (tab L t l) = some v
 | [],_,h,_,_,_=>by cases h
 | x :: l,t,h,hd,hL,hu=>by
  by_cases hin:(e,v) ∈ l
  ·obtain ⟨x1,x2⟩:=x
   simp only [tab]
   exact tab_get_some hin hd hL fun y hy=>hu y (List.mem_cons_of_mem _ hy)
  ·rcases List.mem_cons.1 h with rfl | h
   ·simp only [tab,hL,hd]
    rw [tab_get_none]
    ·exact get_tput_same
    ·intro y hy hyd
     have:=hu y (List.mem_cons_of_mem _ hy) hyd
     rw [this] at hy
     exact absurd hy hin
   ·exact absurd h hin
structure Ord (T:Tys) (nt:Nat) (ops:List Oper) (D S:List ADraw) :Prop where
 ok:∀ e ∈ D,DOk T nt ops e
 uniq:∀ e ∈ D,∀ f ∈ D,e.idx = f.idx→e = f
 sub:∀ e ∈ S,e ∈ D
 each:∀ l1 e l2,S = l1 ++ e :: l2→EOk D l1 e
 all:∀ i,i < ops.length→∃ x ∈ S,x.idx = i
theorem compDraw_ord {T:Tys} {nt:Nat} {ops:List Oper} {S:List ADraw} (h:compDraw T nt ops = some S) :∃ D,Ord T nt ops D S:=by
 unfold compDraw at h
 split at h
 ·rename_i D hD
  simp only at h
  split at h
  ·rename_i hok
   cases h
   obtain ⟨g1,g2⟩:=compDraws_ok hD (fun j=>by simp)
   obtain ⟨k1,k2⟩:=schedOk_ok (done:=[]) (fun x hx=>(g1 x hx).1.bit) hok (fun x hx=>phases_sub x hx) (by simp) (by simp)
   exact ⟨D,⟨fun e he=>(g1 e he).1,g2,fun e he=>phases_sub e he,fun l1 e l2 hl=>by simpa using k1 l1 e l2 hl,fun i hi=>by simpa using k2 i hi⟩⟩
  ·cases h
 ·cases h
section
variable {T:Tys} {nt:Nat} {ops:List Oper} {D S:List ADraw}
theorem Ord.ahead (hO:Ord T nt ops D S) :∀ (n:Nat) (l1:List ADraw) (e:ADraw) (l2:List ADraw),l1.length≤n→S = l1 ++ e :: l2→∀ i,e.ahead.testBit i = true→∃ x ∈ l1,x.idx = i:=by
 intro n
 induction n with
 | zero =>
  intro l1 e l2 hn hS i hi
  have hl:l1 = []:=List.length_eq_zero_iff.1 (by omega)
  subst hl
  have he:=hO.each _ _ _ hS
  rcases he.clo i hi with h | ⟨x,hx,h,_⟩
  ·exact he.need i h
  ·obtain ⟨y,hy,_⟩:=he.need _ h; cases hy
 | succ n ih =>
  intro l1 e l2 hn hS i hi
  have he:=hO.each _ _ _ hS
  rcases he.clo i hi with h | ⟨x,hx,h,hxa⟩
  ·exact he.need i h
  ·obtain ⟨y,hy,hyx⟩:=he.need _ h
   obtain ⟨m1,m2,hm⟩:=List.append_of_mem hy
   have hyS:y ∈ S:=by rw [hS]; exact List.mem_append_left _ hy
   have hxy:y = x:=hO.uniq y (hO.sub y hyS) x hx hyx
   rw [← hxy] at hxa
   obtain ⟨z,hz,hzi⟩:=ih m1 y (m2 ++ e :: l2) (by rw [hm] at hn; simp at hn; omega) (by rw [hS,hm]; simp) i hxa
   exact ⟨z,by rw [hm]; exact List.mem_append_left _ hz,hzi⟩
theorem Ord.idx_ne (hO:Ord T nt ops D S) {l1:List ADraw} {e:ADraw} {l2:List ADraw} (hS:S = l1 ++ e :: l2) {x:ADraw} (hx:x ∈ l1) :x.idx ≠ e.idx:=(hO.each _ _ _ hS).new x hx
theorem Ord.uniqS (hO:Ord T nt ops D S) {e f:ADraw} (he:e ∈ S) (hf:f ∈ S) (h:e.idx = f.idx) :e = f:=hO.uniq e (hO.sub e he) f (hO.sub f hf) h
theorem Ord.lt (hO:Ord T nt ops D S) {e:ADraw} (he:e ∈ S) :e.idx < ops.length:=by
 obtain ⟨o,h,_⟩:=(hO.ok e (hO.sub e he)).op
 rcases Nat.lt_or_ge e.idx ops.length with h' | h'
 ·exact h'
 ·rw [List.getElem?_eq_none h'] at h; cases h
theorem Ord.agree (hO:Ord T nt ops D S) {t0:PT AVal} {vals:List (ADraw × AVal)} {rest:List ADraw} (hS:S = vals.map (·.1) ++ rest) {L:Nat→Bool}
  (hclo:∀ x ∈ S,L x.idx = true→∀ i,x.ahead.testBit i = true→L i = true) {l1:List (ADraw × AVal)} {e:ADraw} {l2':List ADraw} (he:S = l1.map (·.1) ++ e :: l2') {tl:List (ADraw × AVal)} (hvals:vals = l1 ++ tl)
  (heL:L e.idx = false) (hahead:∀ i,e.ahead.testBit i = true→L i = true) :∀ p ∈ e.o.tmps,PT.get p (tab (fun _=>true) t0 l1) = PT.get p (tab L t0 vals):=by
 intro p hp
 have hE:=hO.each _ _ _ he
 have heS:e ∈ S:=by rw [he]; simp
 have inS:∀ x ∈ vals,x.1 ∈ S:=fun x hx=>by rw [hS]; exact List.mem_append_left _ (List.mem_map.2 ⟨x,hx,rfl⟩)
 have uniq:∀ x ∈ vals,∀ y ∈ vals,x.1.o.dst = some p→y.1.o.dst = some p→x.1.idx = y.1.idx:=by
  intro x hx y hy hxd hyd
  obtain ⟨m1,m2,hm⟩:=List.append_of_mem (inS y hy)
  rcases (hO.each _ _ _ hm).dst x.1 (hO.sub _ (inS x hx)) with h | h
  ·exact h
  ·exact absurd hyd (h p hxd)
 by_cases hex:∃ x ∈ l1,x.1.o.dst = some p
 ·obtain ⟨⟨x,v⟩,hx,hxd⟩:=hex
  have hxv:(x,v) ∈ vals:=by rw [hvals]; exact List.mem_append_left _ hx
  have hxne:x.idx ≠ e.idx:=hE.new x (List.mem_map.2 ⟨_,hx,rfl⟩)
  have hxL:L x.idx = true:=by
   rcases hE.dep p hp x (hO.sub _ (inS _ hxv)) hxd with h | h | h
   ·exact absurd h hxne
   ·exact hahead _ h
   ·exfalso
    obtain ⟨m1,m2,hm⟩:=List.append_of_mem (List.mem_map.2 ⟨_,hx,rfl⟩ :x ∈ l1.map (·.1))
    obtain ⟨z,hz,hzi⟩:=hO.ahead _ m1 x (m2 ++ e :: l2') (Nat.le_refl _) (by rw [he,hm]; simp) _ h
    exact hE.new z (by rw [hm]; exact List.mem_append_left _ hz) hzi
  have nodup:∀ y ∈ vals,y.1.o.dst = some p→y = (x,v):=by
   intro y hy hyd
   have hi:=uniq y hy (x,v) hxv hyd hxd
   have h1:y.1 = x:=hO.uniqS (inS y hy) (inS _ hxv) hi
   obtain ⟨m1,m2,hm⟩:=List.append_of_mem hxv
   rw [hm] at hy
   have hSm:S = m1.map (·.1) ++ x :: (m2.map (·.1) ++ rest):=by rw [hS,hm]; simp
   rcases List.mem_append.1 hy with h | h
   ·exact absurd hi (hO.idx_ne hSm (List.mem_map.2 ⟨_,h,rfl⟩))
   ·rcases List.mem_cons.1 h with h | h
    ·exact h
    ·exfalso
     obtain ⟨k1,k2,hk⟩:=List.append_of_mem h
     have hSk:S = (m1 ++ (x,v) :: k1).map (·.1) ++ y.1 :: (k2.map (·.1) ++ rest):=by rw [hS,hm,hk]; simp
     exact hO.idx_ne hSk (x:=x) (by simp) hi.symm
  rw [tab_get_some (L:=fun _=>true) hx hxd rfl (fun y hy hyd=>nodup y (by rw [hvals]; exact List.mem_append_left _ hy) hyd),tab_get_some hxv hxd hxL nodup]
 ·have h1:PT.get p (tab (fun _=>true) t0 l1) = PT.get p t0:=tab_get_none fun x hx hxd=>absurd ⟨x,hx,hxd⟩ hex
  rw [h1,tab_get_none]
  intro x hx hxd
  cases hL:L x.1.idx with
  | false=>rfl
  | true =>
   exfalso
   rcases hE.dep p hp x.1 (hO.sub _ (inS x hx)) hxd with h | h | h
   ·rw [h,heL] at hL; cases hL
   ·obtain ⟨z,hz,hzi⟩:=hO.ahead _ _ e l2' (Nat.le_refl _) he _ h
    obtain ⟨y,hy,rfl⟩:=List.mem_map.1 hz
    have hyS:=inS y (by rw [hvals]; exact List.mem_append_left _ hy)
    have:y.1 = x.1:=hO.uniqS hyS (inS x hx) hzi
    exact hex ⟨y,hy,by rw [this]; exact hxd⟩
   ·rw [hclo _ (inS x hx) hL _ h] at heL; cases heL
end
end Go.Am
end

section
namespace Go.Am
open Go Go.RowKit
theorem needOf_iff:∀ (l:List Edge) (i:Nat),(needOf l).testBit i = true ↔ ∃ e ∈ l,Region.binds .any e = true∧e.on = i
 | [],i=>by simp [needOf]
 | e :: l,i=>by
  simp only [needOf]
  split
  ·rename_i h
   show (2 ^ e.on ||| needOf l).testBit i = true ↔ _
   rw [Nat.testBit_or,Bool.or_eq_true,testBit_two_pow',needOf_iff l i]
   simp [h]
  ·rename_i h
   rw [needOf_iff l i]
   simp [h]
mutual
theorem same_eq:∀ {a b:AVal},same a b = true→a = b
 | .bool a,b,h=>by cases b <;> simp_all [same]
 | .int k n,b,h=>by
  cases b <;> simp only [same] at h <;> first
   | (cases h; done)
   | skip
  split at h
  ·rename_i hk
   rw [eqI_eq] at h
   have:=kbeq_eq.1 hk
   simp at h
   rw [this,h]
  ·cases h
 | .str s,b,h=>by
  cases b <;> simp only [same] at h <;> first
   | (cases h; done)
   | skip
  rename_i r
  have:∀ (s r:List Nat),strEq s r = true→s = r:=by
   intro s
   induction s with
   | nil=>intro r h; cases r <;> simp_all [strEq]
   | cons x s ih =>
    intro r h
    cases r with
    | nil=>simp [strEq] at h
    | cons y r =>
     simp only [strEq] at h
     split at h
     ·rename_i hx
      rw [Nat.eq_of_beq_eq_true hx,ih r h]
     ·cases h
  rw [this s r h]
 | .pnil,b,h=>by cases b <;> simp_all [same]
 | .ptr p o,b,h=>by
  cases b <;> simp only [same] at h <;> first
   | (cases h; done)
   | skip
  rw [Bool.and_eq_true] at h
  rw [Pos.beq_eq.1 h.1,Nat.eq_of_beq_eq_true h.2]
 | .snil,b,h=>by cases b <;> simp_all [same]
 | .sl p o l c z,b,h=>by
  cases b <;> simp only [same] at h <;> first
   | (cases h; done)
   | skip
  simp only [Bool.and_eq_true] at h
  obtain ⟨⟨⟨⟨h1,h2⟩,h3⟩,h4⟩,h5⟩:=h
  rw [Pos.beq_eq.1 h1,Nat.eq_of_beq_eq_true h2,Nat.eq_of_beq_eq_true h3,Nat.eq_of_beq_eq_true h4,Nat.eq_of_beq_eq_true h5]
 | .mnil,b,h=>by cases b <;> simp_all [same]
 | .map p,b,h=>by
  cases b <;> simp only [same] at h <;> first
   | (cases h; done)
   | skip
  rw [Pos.beq_eq.1 h]
 | .fnil,b,h=>by cases b <;> simp_all [same]
 | .func f a c,b,h=>by
  cases b <;> simp only [same] at h <;> first
   | (cases h; done)
   | skip
  simp only [Bool.and_eq_true] at h
  obtain ⟨⟨h1,h2⟩,h3⟩:=h
  rw [Nat.eq_of_beq_eq_true h1,sameL_eq h2,sameL_eq h3]
 | .yld l,b,h=>by
  cases b <;> simp only [same] at h <;> first
   | (cases h; done)
   | skip
  rw [Pos.beq_eq.1 h]
 | .inil,b,h=>by cases b <;> simp_all [same]
 | .iface t v,b,h=>by
  cases b <;> simp only [same] at h <;> first
   | (cases h; done)
   | skip
  rw [Bool.and_eq_true] at h
  rw [Nat.eq_of_beq_eq_true h.1,same_eq h.2]
 | .agg l,b,h=>by
  cases b <;> simp only [same] at h <;> first
   | (cases h; done)
   | skip
  rw [sameL_eq h]
 | .tup l,b,h=>by
  cases b <;> simp only [same] at h <;> first
   | (cases h; done)
   | skip
  rw [sameL_eq h]
 | .any,b,h=>by cases b <;> simp_all [same]
theorem sameL_eq:∀ {a b:List AVal},sameL a b = true→a = b
 | [],b,h=>by cases b <;> simp_all [sameL]
 | x :: l,b,h=>by
  cases b with
  | nil=>simp [sameL] at h
  | cons y m =>
   simp only [sameL,Bool.and_eq_true] at h
   rw [same_eq h.1,sameL_eq h.2]
end
theorem again_ok {H:AHeap} {ahead:Nat} :∀ {seen seen':List Seen},again ahead H seen = some seen'→∀ s ∈ seen,Nat.beq (Nat.land ahead s.bit) 0 = true→s ∈ seen'∧quiet s.t H s.op = some s.v
 | [],_,_,s,hs,_=>by cases hs
 | x :: l,seen',h,s,hs,hb=>by
  simp only [again] at h
  split at h
  ·rename_i hx
   split at h
   ·rename_i v hv
    split at h
    ·rename_i hsame
     split at h
     ·rename_i l' hl'
      cases h
      rcases List.mem_cons.1 hs with rfl | hs
      ·exact ⟨by simp,by rw [hv,same_eq hsame]⟩
      ·obtain ⟨g1,g2⟩:=again_ok hl' s hs hb
       exact ⟨List.mem_cons_of_mem _ g1,g2⟩
     ·cases h
    ·cases h
   ·cases h
  ·rename_i hx
   rcases List.mem_cons.1 hs with rfl | hs
   ·rw [hb] at hx; cases hx
   ·exact again_ok h s hs hb
def makeA (t:PT AVal) :AOp→Option (List AVal × (Pos→AVal))
 | .alloc z=>some (z,fun b=>.ptr b 0)
 | .box x=>match vcellsO (x.ev t) with
  | some vs=>some (vs,fun b=>.ptr b 0)
  | none=>none
 | .buildSlice z len ps=>match fillA z t ps with
  | some l=>some (l,fun b=>.sl b 0 len len 0)
  | none=>none
 | .mkSlice z bytes l c=>match natOf (l.ev t),natOf (c.ev t) with
  | some l,some c=>match Nat.ble l c,Nat.ble (Nat.mul c bytes) 140737488355328,Nat.ble c 140737488355328 with
   | true,true,true=>some (repl z c,fun b=>.sl b 0 l c 0)
   | _,_,_=>none
  | _,_=>none
 | _=>none
theorem makeA_congr {t t':PT AVal} {op:AOp} (h:Agree t t' op.tmps) :makeA t op = makeA t' op:=by
 cases op with
 | box x=>simp only [makeA,Agree.ev (x:=x) h]
 | buildSlice z len ps=>simp only [makeA,Agree.fill (ps:=ps) h]
 | mkSlice z b l c=>simp only [makeA,Agree.ev (x:=l) h.left,Agree.ev (x:=c) h.right]
 | _=>rfl
theorem write_make {t:PT AVal} {H H':AHeap} {op:AOp} {v:AVal} (hc:clsOf op = 1) (h:write t H op = some (v,H')) :∃ z vf,makeA t op = some (z,vf)∧v = vf H.nx∧H' = (H.new (.cells z false false)).2:=by
 cases op with
 | alloc z=>cases h; exact ⟨_,_,rfl,rfl,rfl⟩
 | box x =>
  simp only [write] at h
  simp only [makeA]
  split at h
  ·rename_i vs hv
   cases h
   rw [hv]
   exact ⟨_,_,rfl,rfl,rfl⟩
  ·cases h
 | buildSlice z len ps =>
  simp only [write] at h
  simp only [makeA]
  split at h
  ·rename_i vs hv
   cases h
   rw [hv]
   exact ⟨_,_,rfl,rfl,rfl⟩
  ·cases h
 | mkSlice z b l c =>
  simp only [write] at h
  simp only [makeA]
  split at h
  ·rename_i l' c' hl hcc
   split at h
   ·rename_i g1 g2 g3
    cases h
    rw [hl,hcc]
    simp only [g1,g2,g3]
    exact ⟨_,_,rfl,rfl,rfl⟩
   ·cases h
  ·cases h
 | conv c x=>cases c <;> simp [clsOf,isQuiet] at hc
 | _=>simp [clsOf,isQuiet] at hc
section
variable {P:Program} {T:Tys} {B:Nat} {φ:Emb} {H:AHeap} {w:World} {nt:Nat} {t:PT AVal} {a:Act}
theorem make_ok (hT:TOk2 T P) (hH:HRel T B φ H w) (ht:TRel φ nt t a.tmps) {o:Oper} {ao:AOp} (hc:compOp T o.op = some ao) {z:List AVal} {vf:Pos→AVal} (h:makeA t ao = some (z,vf)) :
  Makes P φ w (execOp a.eval o) z vf∧∀ c,o.op ≠ .defer c:=by
 have hT1:=hT.toTOk
 generalize ho:o.op = op at hc
 unfold compOp at hc
 split at hc
 case _ =>
  split at hc
  ·cases hc; simp [makeA] at h
  ·cases hc
 all_goals first
  | ((repeat' split at hc) <;> (first | (cases hc; done) | (cases hc; simp [makeA] at h; done)))
  | skip
 ·
  split at hc
  ·rename_i zz hz
   cases hc; cases h
   exact ⟨make_alloc hT1 ho hz,by simp⟩
  ·cases hc
 ·
  split at hc
  ·rename_i ax hx
   cases hc
   simp only [makeA] at h
   split at h
   ·rename_i vs hv
    cases h
    exact ⟨make_box hH ht ho hx hv,by simp⟩
   ·cases h
  ·cases hc
 ·
  split at hc
  ·rename_i e hu
   split at hc
   ·rename_i s zz hs hz
    split at hc
    ·rename_i aps hp hle
     cases hc
     simp only [makeA] at h
     split at h
     ·rename_i l hl
      cases h
      exact ⟨make_buildSlice hT hH ht ho hu hs hz hp (Nat.le_of_ble_eq_true hle) hl,by simp⟩
     ·cases h
    ·cases hc
   ·cases hc
  ·cases hc
 ·
  split at hc
  ·rename_i e ax ay hu hx hy
   split at hc
   ·rename_i i zz hi hz
    cases hc
    simp only [makeA] at h
    split at h
    ·rename_i l c hl hcc
     split at h
     ·rename_i g1 g2 g3
      cases h
      exact ⟨make_mkSlice hT hH ht ho hx hy hu hi hz hl hcc (Nat.le_of_ble_eq_true g1) (Nat.le_of_ble_eq_true g2) (Nat.le_of_ble_eq_true g3),by simp⟩
     ·cases h
    ·cases h
   ·cases hc
  ·cases hc
 ·
  exfalso
  unfold compCall at hc
  (repeat' split at hc) <;> (first | (cases hc; done) | (cases hc; simp [makeA] at h; done))
end
end Go.Am
end
