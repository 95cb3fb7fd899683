/- Part of the proof: AmCode1, AmCode2, AmCode3, AmCode4. -/
import Derived.Test.YtaogphcjlkeakaaGreatDoorAm10
import Derived.LoopNIn
import Derived.RangeFuncLeaves
import Derived.TacticsIn
set_option linter.unusedSimpArgs false
set_option linter.unusedVariables false
section
namespace Go.Am
open Go Go.RowKit
def dRel (φ:Emb) :ADef→Deferred→Prop
 | .mark p,d=>∃ x,φ p = some x∧d.target = .collected x.c
 | .fn f args,d=>∃ cap,d.target = .fn (.func f) cap∧LRel φ args (d.args ++ cap).toList
def dsRel (φ:Emb) :List ADef→List Deferred→Prop
 | [],l=>l = []
 | a :: as,l=>∃ d ds,l = d :: ds∧dRel φ a d∧dsRel φ as ds
theorem dRel.mono {φ φ':Emb} (h:φ.le φ') :∀ {a:ADef} {d:Deferred},dRel φ a d→dRel φ' a d
 | .mark _,_,⟨x,h1,h2⟩=>⟨x,h _ _ h1,h2⟩
 | .fn _ _,_,⟨cap,h1,h2⟩=>⟨cap,h1,h2.mono h⟩
theorem dsRel.mono {φ φ':Emb} (h:φ.le φ') :∀ {a:List ADef} {d:List Deferred},dsRel φ a d→dsRel φ' a d
 | [],_,e=>e
 | _ :: _,_,⟨d,ds,h1,h2,h3⟩=>⟨d,ds,h1,h2.mono h,h3.mono h⟩
structure ActRel (φ:Emb) (nt:Nat) (aa:AAct) (a:Act) :Prop where
 t:TRel φ nt aa.t a.tmps
 ds:dsRel φ aa.ds a.defers
theorem ActRel.mono {φ φ':Emb} (h:φ.le φ') {nt:Nat} {aa:AAct} {a:Act} (r:ActRel φ nt aa a) :ActRel φ' nt aa a:=⟨r.t.mono h,r.ds.mono h⟩
def exitOf:AExit→Exit
 | .normal=>.normal
 | .ret=>.ret
 | .exit id=>.exit id
 | .goto l=>.goto l
def roRel (φ:Emb) :Option Pos→Option Nat→Prop
 | none,none=>True
 | some p,some c=>∃ x,φ p = some x∧c = x.c
 | _,_=>False
theorem roRel.mono {φ φ':Emb} (h:φ.le φ') :∀ {ro:Option Pos} {ro':Option Nat},roRel φ ro ro'→roRel φ' ro ro'
 | none,none,_=>trivial
 | some _,some _,⟨x,h1,h2⟩=>⟨x,h _ _ h1,h2⟩
 | none,some _,h=>h.elim
 | some _,none,h=>h.elim
def FR:Option Nat→Fence
 | none=>Fence.wide
 | some l=>Fence.wide.inRound l
theorem FR_round (r:Option Nat) :(FR r).round = r:=by cases r <;> rfl
theorem FR_fn (r:Option Nat) (f:FuncId) :(FR r).fn f:=by cases r <;> trivial
theorem FR_depth (r:Option Nat) :(FR r).depth = none:=by cases r <;> rfl
theorem FR_depth' (r:Option Nat) {p:Prop} :(FR r).depth.isSome = true→p:=by rw [FR_depth]; intro h; cases h
theorem callsIn_FR {r:Option Nat} {n m:Nat} {P:Program} {f:FuncId} {args:Array Value} {w:World} {R:Ending→World→Prop} (h:CallsIn Fence.wide n P f args w R) :CallsIn (FR r) m P f args w R:=by
 refine ⟨FR_fn r f,fun cs _=>?_⟩
 have:=h.2 cs (fun d hd=>by cases hd)
 cases r <;> exact this
theorem roundIn_FR {r:Option Nat} {n m:Nat} {P:Program} {l:Nat} {f:FuncId} {tmps:Array Value} {assign body:Code} {w:World} {R:Ending→World→Prop} (h:RoundIn Fence.wide n P l f tmps assign body w R) :RoundIn (FR r) m P l f tmps assign body w R:=by
 refine ⟨FR_fn r f,fun c cs _=>?_⟩
 have:=h.2 c cs (fun d hd=>by cases hd)
 cases r <;> exact this
section
variable (P:Program) (T:Tys) (B:Nat)
def Post (φ:Emb) (H:AHeap) (w:World) (nt:Nat) (e:AExit) (aa':AAct) (H':AHeap) :Exit→Act→World→Prop :=
 fun e' a' w'=>e' = exitOf e∧∃ φ',Sim T B φ H w φ' H' w'∧ActRel φ' nt aa' a'
def SoundRec (rec:Rec) :Prop:=∀ (c:Code) (nt:Nat) (ro:Option Pos) (ro':Option Nat) (aa:AAct) (H:AHeap) (φ:Emb) (a:Act) (w:World),
 HRel T B φ H w→ActRel φ nt aa a→roRel φ ro ro'→∀ {e aa' H'},rec (comp T nt ro'.isSome c) ro aa H = some (e,aa',H')→c.wpIn (FR ro') 0 P (Post T B φ H w nt e aa' H') a w
def Returns (φ:Emb) (H:AHeap) (w:World) (f:FuncId) (args:Array Value) (v:AVal) (H':AHeap) :Prop :=
 (callFunc f args).run P w = .ok (.enter f args) w ∧
 CallsIn Fence.wide 0 P f args w fun e w'=>∃ u φ',e = .returned u∧VRel φ' v u∧Sim T B φ H w φ' H' w'
def CallOk (φ:Emb) (H:AHeap) (w:World) (f:FuncId) (args:Array Value) (v:AVal) (H':AHeap) :Prop :=
 Returns P T B φ H w f args v H'∨∃ u w' φ',(callFunc f args).run P w = .ok (.value u) w'∧VRel φ' v u∧Sim T B φ H w φ' H' w'
structure EnvOk (E:Env) :Prop where
 fns:∀ f fi,f < 2147483648→PT.get (Pos.ofNat f) E.fns = some fi→∃ fn,P.funcs[f]? = some fn∧(fn.name == "runtime.NumGoroutine") = false∧compFun T fn = some fi
 sums:∀ f s,f < 2147483648→PT.get (Pos.ofNat f) E.sums = some s→∀ φ H w args args' v H',HRel T B φ H w→LRel φ args args'.toList→s args H = some (v,H')→CallOk P T B φ H w f args' v H'
 dsums:∀ f s,f < 2147483648→PT.get (Pos.ofNat f) E.dsums = some s→∀ φ H w args args' H',HRel T B φ H w→LRel φ args args'.toList→s args H = some H' →
  (callFunc f args').run P w = .ok (.enter f args') w∧CallsDIn Fence.wide 0 P f args' .returning w fun e u w'=>(∃ v,e = .returned v)∧u = .returning∧∃ φ',Sim T B φ H w φ' H' w'
end
section
variable {P:Program} {T:Tys} {B:Nat} {φ:Emb} {H:AHeap} {w:World} {nt:Nat} {t:PT AVal} {a:Act}
theorem args0_ok:∀ {args:List AVal} {vs:List Value} {i n:Nat} {t t':PT AVal} {pre:List Value},args0 args i n t = some t'→LRel φ args vs→pre.length = i→i + n < 2 ^ 31 →
  (∀ j,j < 2 ^ 31→VRel φ (tget t (Pos.ofNat j)) (pre[j]?.getD Go.undef)) →
  vs.length≤n∧∀ j,j < 2 ^ 31→VRel φ (tget t' (Pos.ofNat j)) ((pre ++ vs)[j]?.getD Go.undef)
 | [],vs,i,n,t,t',pre,h,hl,hp,hn,ht=>by
  simp only [args0] at h
  cases h
  have:vs = []:=hl
  subst this
  exact ⟨Nat.zero_le _,by simpa using ht⟩
 | v :: args,vs,i,0,t,t',pre,h,hl,hp,hn,ht=>by simp [args0] at h
 | v :: args,vs,i,n + 1,t,t',pre,h,hl,hp,hn,ht=>by
  simp only [args0] at h
  obtain ⟨u,us,rfl,h1,h2⟩:=hl
  obtain ⟨g1,g2⟩:=args0_ok (pre:=pre ++ [u]) h h2 (by simp [hp]) (by omega) (by
   intro j hj
   by_cases e:j = i
   ·subst e
    unfold tget
    rw [PT.get_set_same]
    simp [hp]
    exact h1
   ·have hne:Pos.ofNat i ≠ Pos.ofNat j:=fun h=>e (Pos.ofNat_inj (by omega) hj h).symm
    have:=ht j hj
    unfold tget at this ⊢
    rw [PT.get_set_other _ _ _ _ hne]
    have e2:(pre ++ [u])[j]? = pre[j]?∨((pre ++ [u])[j]? = none∧pre[j]? = none):=by
     rcases Nat.lt_or_ge j i with h | h
     ·left; rw [List.getElem?_append_left (by omega)]
     ·right
      exact ⟨List.getElem?_eq_none (by simp; omega),List.getElem?_eq_none (by omega)⟩
    rcases e2 with e2 | ⟨e2,e3⟩
    ·rw [e2]; exact this
    ·rw [e2]; rw [e3] at this; exact this)
  exact ⟨by simp; omega,by simpa using g2⟩
theorem tget_nil (p:Pos) :tget .l p = .undef:=by
 unfold tget
 cases p <;> rfl
theorem enter_tmps {args:List AVal} {vs:Array Value} {n:Nat} {t:PT AVal} (h:args0 args 0 n .l = some t) (hl:LRel φ args vs.toList) (hn:n < 2 ^ 31) :
  TRel φ n t (vs ++ Array.replicate (n - vs.size) Go.undef):=by
 obtain ⟨h1,h2⟩:=args0_ok (pre:=[]) h hl rfl (by omega) (fun j _=>by rw [tget_nil]; exact VRel.undef)
 have hsz:vs.size≤n:=by simpa using h1
 refine ⟨by simp; omega,hn,fun i hi=>?_⟩
 have:=h2 i hi
 have e:(vs ++ Array.replicate (n - vs.size) Go.undef).getD i Go.undef = ([] ++ vs.toList)[i]?.getD Go.undef:=by
  rw [Array.getD_eq_getD_getElem?,List.nil_append,Array.getElem?_toList]
  rcases Nat.lt_or_ge i vs.size with h | h
  ·rw [Array.getElem?_append_left h]
  ·rw [Array.getElem?_append_right h,Array.getElem?_eq_none (xs:=vs) h]
   simp [Array.getElem?_replicate]
   split <;> rfl
 rw [e]
 exact this
def resOne (tmps:Array Value) :ResultVar→Sem Value
 | .tmp t=>pure (tmps.getD t Go.undef)
 | .cell a t=>do loadVar t (← asAddr (tmps.getD a Go.undef))
def resVal:List AVal→AVal
 | [v]=>v
 | l=>.tup l
theorem results_ok (hT:TOk T P) (hH:HRel T B φ H w) {tmps:Array Value} (ht:TRel φ nt t tmps) :∀ {rs:List ResultVar} {ars:List (Pos × Option Nat)} {l:List AVal},compRes T rs = some ars→resultA t H ars = some l →
  ∃ us:List Value,(rs.mapM (resOne tmps)).run P w = .ok us w∧LRel φ l us
 | [],ars,l,hc,h=>by
  simp [compRes] at hc
  subst hc
  simp [resultA] at h
  subst h
  exact ⟨[],by simp,rfl⟩
 | .tmp i :: rs,ars,l,hc,h=>by
  simp only [compRes] at hc
  split at hc
  ·rename_i m hi hm
   cases hc
   simp only [resultA] at h
   split at h
   ·rename_i l' hl
    cases h
    obtain ⟨us,h1,h2⟩:=results_ok hT hH ht hm hl
    have hi:i < 2 ^ 31:=by simpa [Nat.blt_eq] using hi
    exact ⟨tmps.getD i Go.undef :: us,by simp only [List.mapM_cons,resOne,Sem.run_bind,Sem.run_pure,Result.andThen_ok,h1],_,_,rfl,ht.2.2 i hi,h2⟩
   ·cases h
  ·cases hc
 | .cell i ty :: rs,ars,l,hc,h=>by
  simp only [compRes] at hc
  split at hc
  ·rename_i n m hi hg hn hm
   cases hc
   have hi:i < 2 ^ 31:=by simpa [Nat.blt_eq] using hi
   have hv:=ht.2.2 i hi
   simp only [resultA] at h
   split at h
   ·rename_i b o hb
    rw [hb] at hv
    obtain ⟨x,hx,e⟩:=hv
    split at h
    ·rename_i v l' hlv hl
     cases h
     obtain ⟨us,h1,h2⟩:=results_ok hT hH ht hm hl
     obtain ⟨vs,g1,g2,g3,g4⟩:=hloadN_ok (P:=P) hH hx hlv
     refine ⟨.agg vs.toArray :: us,?_,_,_,rfl,⟨_,rfl,by simpa using g2⟩,h2⟩
     simp only [List.mapM_cons,resOne,Sem.run_bind,e,asAddr,Sem.run_pure,Result.andThen_ok,loadVar,hT.run_isAgg hg,if_true,hT.run_size hn,g4,h1]
    ·cases h
   ·cases h
  ·rename_i n m hi hg hn hm
   cases hc
   have hi:i < 2 ^ 31:=by simpa [Nat.blt_eq] using hi
   have hv:=ht.2.2 i hi
   simp only [resultA] at h
   split at h
   ·rename_i b o hb
    rw [hb] at hv
    obtain ⟨x,hx,e⟩:=hv
    split at h
    ·rename_i v l' hlv hl
     cases h
     obtain ⟨us,h1,h2⟩:=results_ok hT hH ht hm hl
     obtain ⟨u,g1,g2⟩:=hload_ok hH hx hlv
     refine ⟨u :: us,?_,_,_,rfl,g2,h2⟩
     have hload:(load ⟨x.c,x.s + o,none⟩).run P w = .ok u w:=by simp [g1]
     simp only [List.mapM_cons,resOne,Sem.run_bind,e,asAddr,Sem.run_pure,Result.andThen_ok,loadVar,hT.run_isAgg hg,Bool.false_eq_true,if_false,hload,h1]
    ·cases h
   ·cases h
  ·cases hc
theorem results_run (hT:TOk T P) (hH:HRel T B φ H w) {tmps:Array Value} (ht:TRel φ nt t tmps) {fn:Func} {ars:List (Pos × Option Nat)} {l:List AVal} (hc:compRes T fn.results.toList = some ars) (h:resultA t H ars = some l) :
  ∃ u,(results fn tmps).run P w = .ok u w∧VRel φ (resVal l) u:=by
 obtain ⟨us,h1,h2⟩:=results_ok (P:=P) hT hH ht hc h
 have hm:(fn.results.mapM (resOne tmps)).run P w = .ok us.toArray w:=by
  rw [Array.mapM_eq_mapM_toList]
  simp only [Sem.run_map,h1,Result.andThen_ok]
 have he:results fn tmps = (do
   let vs ← fn.results.mapM (resOne tmps)
   pure (if h:vs.size = 1 then vs[0] else .tuple vs)):=by
  unfold results
  congr 2
 have hr:(results fn tmps).run P w = .ok (if h:us.toArray.size = 1 then us.toArray[0] else .tuple us.toArray) w:=by
  rw [he]
  simp only [Sem.run_bind,hm,Result.andThen_ok,Sem.run_pure]
 rw [hr]
 refine ⟨_,rfl,?_⟩
 have hlen:=h2.length
 clear h hr hm he hc
 match l,us,h2,hlen with
 | [],us,h2,hlen =>
  have:us = []:=h2
  subst this
  exact ⟨#[],rfl,rfl⟩
 | [v],us,h2,hlen =>
  obtain ⟨u,us',rfl,g1,g2⟩:=h2
  have:us' = []:=g2
  subst this
  exact g1
 | v :: v' :: l,us,h2,hlen =>
  have:¬ (us.toArray.size = 1):=by simp at hlen ⊢; omega
  rw [dif_neg this]
  exact ⟨us.toArray,rfl,by simpa using h2⟩
end
end Go.Am
end

section
namespace Go.Am
open Go Go.RowKit
section
variable {P:Program} {T:Tys} {B:Nat} {φ:Emb} {H:AHeap} {w:World} {nt:Nat} {t:PT AVal} {a:Act} {E:Env} {rec:Rec}
theorem run_callFunc {f:FuncId} {fn:Func} {c:Code} {args:Array Value} (h1:P.funcs[f]? = some fn) (h2:(fn.name == "runtime.NumGoroutine") = false) (h3:fn.body = some c) :(callFunc f args).run P w = .ok (.enter f args) w:=by
 have h2':¬ fn.name = "runtime.NumGoroutine":=by simpa using h2
 simp [callFunc,h1,h2',h3]
theorem compFun_inv {fn:Func} {fi:AFun} (h:compFun T fn = some fi) :∃ c,fn.body = some c∧fi.body = comp T fn.ntmps false c∧fi.ntmps = fn.ntmps∧compRes T fn.results.toList = some fi.results∧fn.ntmps < 2 ^ 31:=by
 unfold compFun at h
 split at h
 ·rename_i c rs h1 h2 h3
  cases h
  exact ⟨c,h1,rfl,rfl,h2,by simpa [Nat.blt_eq] using h3⟩
 ·cases h
theorem enterA_ok (hrec:SoundRec P T B rec) {fn:Func} {fi:AFun} (hc:compFun T fn = some fi) {c:Code} (hb:fn.body = some c) (hH:HRel T B φ H w) {args:List AVal} {vs:Array Value} (hl:LRel φ args vs.toList) {e:AExit} {aa:AAct} {H':AHeap} (h:enterA rec fi args H = some (e,aa,H')) :
  c.wpIn Fence.wide 0 P (Post T B φ H w fn.ntmps e aa H') { tmps:=vs ++ Array.replicate (fn.ntmps - vs.size) undef,defers:=[] } w:=by
 obtain ⟨c',h1,h2,h3,h4,h5⟩:=compFun_inv hc
 rw [hb] at h1
 cases h1
 unfold enterA at h
 split at h
 ·rename_i t ht
  rw [h3] at ht
  rw [h2] at h
  exact hrec c fn.ntmps none none ⟨t,[]⟩ H φ _ w hH ⟨enter_tmps ht hl h5,by show ([] :List Deferred) = []; rfl⟩ trivial h
 ·cases h
theorem kill_upd (H:AHeap) (p:Pos) (o:AObj) :(H.upd p o).kill p = H.kill p:=by
 simp only [AHeap.upd,AHeap.kill,PT.set_set]
theorem ORel.dfr_run (hH:HRel T B φ H w) {p:Pos} {x:Place} (hx:φ p = some x) (hg:PT.get p H.t = some (.dfr true)) :
  ∃ w',(Instr.takeDeferred x.c).run P w = .ok [] w'∧Sim T B φ H w φ (H.kill p) w':=by
 obtain ⟨h1,h2⟩:=hH.obj p _ x hg hx
 have h1:w.heap[x.c]? = some (.deferred (some [])):=by simpa using h1
 have hin:=(hH.low p x hx).2
 refine ⟨{ w with heap:=w.heap.setIfInBounds x.c (.deferred none) },by simp [Instr.takeDeferred,run_getObj h1,setObj,Sem.run,h1],?_⟩
 have hother:∀ c,c ≠ x.c→({ w with heap:=w.heap.setIfInBounds x.c (.deferred none) } :World).heap[c]? = w.heap[c]?:=fun c hc=>by
  show (w.heap.setIfInBounds x.c _)[c]? = _
  rw [Array.getElem?_setIfInBounds_ne (fun e=>hc e.symm)]
 have S:Sim T B φ H w φ (H.upd p (.dfr false)) { w with heap:=w.heap.setIfInBounds x.c (.deferred none) }:=by
  refine Sim.turn hH hx (by rw [hg]; simp) (Below.of_one h2 rfl rfl rfl (by simp) hother) (by simp) hother ⟨?_,h2⟩
  show (w.heap.setIfInBounds x.c _)[x.c]? = _
  simp [hin]
 rw [← kill_upd H p (.dfr false)]
 exact S.trans (Sim.kill S.rel hx)
def Ends (T:Tys) (B:Nat) (φ:Emb) (H:AHeap) (w:World) (v:AVal) (H':AHeap) :Ending→World→Prop:=fun e w'=>∃ u φ',e = .returned u∧VRel φ' v u∧Sim T B φ H w φ' H' w'
theorem takeDs_ok (hT:TOk T P) (hE:EnvOk P T B E) (hrec:SoundRec P T B rec) {fn:Func} {ars:List (Pos × Option Nat)} {l:List AVal} {tmps:Array Value} (hc:compRes T fn.results.toList = some ars) {φ0:Emb} {H0:AHeap} {w0:World} :
  ∀ {ads:List ADef} {ds:List Deferred} {φ:Emb} {H H':AHeap} {w:World},Sim T B φ0 H0 w0 φ H w→TRel φ nt t tmps→dsRel φ ads ds→takeDs E rec ads H = some H'→resultA t H' ars = some l →
   LeavesInM Fence.wide 0 P fn tmps (Ends T B φ0 H0 w0 (resVal l) H') ds .returning w
 | [],ds,φ,H,H',w,hS,ht,hd,h,hr=>by
  simp only [takeDs] at h
  cases h
  have:ds = []:=hd
  subst this
  obtain ⟨u,h1,h2⟩:=results_run (P:=P) hT hS.rel ht hc hr
  exact ⟨u,h1,u,φ,rfl,h2,hS⟩
 | .mark p :: ads,ds,φ,H,H',w,hS,ht,hd,h,hr=>by
  obtain ⟨d,ds',rfl,⟨x,hx,hd1⟩,hd2⟩:=hd
  simp only [takeDs] at h
  split at h
  ·rename_i hg
   obtain ⟨w',h1,h2⟩:=ORel.dfr_run (P:=P) hS.rel hx hg
   exact ⟨by simp,.inl ⟨x.c,w',hd1,h1,takeDs_ok hT hE hrec hc (hS.trans h2) ht hd2 h hr⟩⟩
  ·cases h
 | .fn f args :: ads,ds,φ,H,H',w,hS,ht,hd,h,hr=>by
  obtain ⟨d,ds',rfl,⟨cap,hd1,hl⟩,hd2⟩:=hd
  simp only [takeDs] at h
  split at h
  ·rename_i hf
   have hf:f < 2147483648:=by simpa [Nat.blt_eq] using hf
   split at h
   ·rename_i s hs
    split at h
    ·rename_i H1 hs1
     obtain ⟨i1,i2⟩:=hE.dsums f s hf hs φ H w args (d.args ++ cap) H1 hS.rel hl hs1
     refine ⟨by simp,.inr ⟨fun h=>(by cases h),.func f,cap,f,d.args ++ cap,hd1,by rw [hd1]; exact i1,fun _ _=>trivial,?_⟩⟩
     refine CallsDIn.mono i2 fun e u' w' ⟨⟨v,he⟩,hu,φ',hS'⟩=>?_
     subst he; subst hu
     exact takeDs_ok hT hE hrec hc (hS.trans hS') (ht.mono hS'.ext.le) (hd2.mono hS'.ext.le) h hr
    ·cases h
   ·split at h
    ·rename_i fi hfi
     obtain ⟨fn',g1,g2,g3⟩:=hE.fns f fi hf hfi
     obtain ⟨c,k1,k2,k3,k4,k5⟩:=compFun_inv g3
     have done:∀ {ex:AExit} {t':PT AVal} {H1:AHeap},(ex = .normal∨ex = .ret)→enterA rec fi args H = some (ex,⟨t',[]⟩,H1)→(∃ l',resultA t' H1 fi.results = some l')→takeDs E rec ads H1 = some H' →
       LeavesInM Fence.wide 0 P fn tmps (Ends T B φ0 H0 w0 (resVal l) H') (d :: ds') .returning w:=by
      intro ex t' H1 hex he ⟨l',hl'⟩ hrest
      refine ⟨by simp,.inr ⟨fun h=>(by cases h),.func f,cap,f,d.args ++ cap,hd1,by rw [hd1]; exact run_callFunc g1 g2 k1,fun _ _=>trivial,?_⟩⟩
      have hw:=enterA_ok hrec g3 k1 hS.rel hl he
      have hcall:=callsDIn_of_wp (F:=Fence.wide) (n:=0) (u:=.returning) (R:=fun e w'=>(∃ v,e = .returned v)∧∃ φ',Sim T B φ H w φ' H1 w') g1 k1 trivial (wpIn_mono hw (fun e' a' w' hpost=>by
       obtain ⟨he',φ',hS',hact⟩:=hpost
       obtain ⟨u,r1,r2⟩:=results_run (P:=P) hT hS'.rel hact.t k4 hl'
       have hnil:a'.defers = []:=hact.ds
       subst he'
       rcases hex with rfl | rfl
       ·exact ⟨hnil,u,r1,⟨u,rfl⟩,φ',hS'⟩
       ·exact ⟨hnil,u,r1,⟨u,rfl⟩,φ',hS'⟩))
      refine CallsDIn.mono hcall fun e u' w' ⟨hu,⟨v,he'⟩,φ',hS'⟩=>?_
      subst hu; subst he'
      exact takeDs_ok hT hE hrec hc (hS.trans hS') (ht.mono hS'.ext.le) (hd2.mono hS'.ext.le) hrest hr
     split at h
     ·cases h
     ·cases h
     ·rename_i ex t' H1 hn1 hn2 he
      split at h
      ·rename_i l' hl'
       refine done (ex:=ex) ?_ he ⟨l',hl'⟩ h
       cases ex with
       | normal=>exact .inl rfl
       | ret=>exact .inr rfl
       | exit id=>exact (hn1 _ rfl).elim
       | goto l=>exact (hn2 _ rfl).elim
      ·cases h
     ·cases h
    ·cases h
  ·cases h
end
end Go.Am
end

section
namespace Go.Am
open Go Go.RowKit
section
variable {P:Program} {T:Tys} {B:Nat} {φ:Emb} {H:AHeap} {w:World} {nt:Nat} {t:PT AVal} {a:Act} {E:Env} {rec:Rec}
theorem callF_ok (hT:TOk T P) (hE:EnvOk P T B E) (hrec:SoundRec P T B rec) (hH:HRel T B φ H w) {f:FuncId} {args:List AVal} {vs:Array Value} (hl:LRel φ args vs.toList) {v:AVal} {H':AHeap} (h:callF E rec f args H = some (v,H')) :
  Returns P T B φ H w f vs v H':=by
 unfold callF at h
 split at h
 ·rename_i fi hf hfi
  have hf:f < 2147483648:=by simpa [Nat.blt_eq] using hf
  obtain ⟨fn,g1,g2,g3⟩:=hE.fns f fi hf hfi
  obtain ⟨c,k1,k2,k3,k4,k5⟩:=compFun_inv g3
  refine ⟨run_callFunc g1 g2 k1,?_⟩
  have done:∀ {ex:AExit} {aa:AAct} {H1 H2:AHeap} {l:List AVal},(ex = .normal∨ex = .ret)→enterA rec fi args H = some (ex,aa,H1)→takeDs E rec aa.ds H1 = some H2→resultA aa.t H2 fi.results = some l →
    CallsIn Fence.wide 0 P f vs w (Ends T B φ H w (resVal l) H2):=by
   intro ex aa H1 H2 l hex he hd hr
   have hw:=enterA_ok hrec g3 k1 hH hl he
   refine callsIn_of_wp_marks g1 k1 trivial (wpIn_mono hw fun e' a' w' ⟨he',φ',hS,hact⟩=>?_)
   have:=takeDs_ok (P:=P) hT hE hrec (fn:=fn) k4 hS hact.t hact.ds hd hr
   subst he'
   rcases hex with rfl | rfl <;> exact this
  split at h
  ·cases h
  ·cases h
  ·rename_i ex aa H1 hn1 hn2 he
   have hex:ex = .normal∨ex = .ret:=by
    cases ex with
    | normal=>exact .inl rfl
    | ret=>exact .inr rfl
    | exit id=>exact (hn1 _ rfl).elim
    | goto l=>exact (hn2 _ rfl).elim
   split at h
   ·rename_i H2 hd
    split at h
    ·rename_i v' hr
     cases h
     exact done hex he hd hr
    ·rename_i l hne hr
     cases h
     have:=done hex he hd hr
     have hv:resVal l = .tup l:=by
      match l,hne with
      | [],_=>rfl
      | [v],hne=>exact (hne v rfl).elim
      | _ :: _ :: _,_=>rfl
     rw [hv] at this
     exact this
    ·cases h
   ·cases h
  ·cases h
 ·cases h
theorem callA_ok (hT:TOk T P) (hE:EnvOk P T B E) (hrec:SoundRec P T B rec) (hH:HRel T B φ H w) {f:FuncId} {args:List AVal} {vs:Array Value} (hl:LRel φ args vs.toList) {v:AVal} {H':AHeap} (h:callA E rec f args H = some (v,H')) :
  CallOk P T B φ H w f vs v H':=by
 unfold callA at h
 split at h
 ·rename_i s hf hs
  have hf:f < 2147483648:=by simpa [Nat.blt_eq] using hf
  exact hE.sums f s hf hs φ H w args vs v H' hH hl h
 ·exact .inl (callF_ok hT hE hrec hH hl h)
theorem Sim.loop (hH:HRel T B φ H w) {l:Pos} {x:Place} (hx:φ l = some x) {r:ALoop} (hg:PT.get l H.t = some (.loop r)) {r':ALoop} {lp':Loop} (hrel:loopRel T φ r' lp') :
  Sim T B φ H w φ (H.upd l (.loop r')) { w with heap:=w.heap.setIfInBounds x.c (.loop lp') }:=by
 obtain ⟨lp,h1,h2,h3⟩:=hH.obj l _ x hg hx
 have hin:=(hH.low l x hx).2
 have hother:∀ c,c ≠ x.c→({ w with heap:=w.heap.setIfInBounds x.c (.loop lp') } :World).heap[c]? = w.heap[c]?:=fun c hc=>by
  show (w.heap.setIfInBounds x.c _)[c]? = _
  rw [Array.getElem?_setIfInBounds_ne (fun e=>hc e.symm)]
 refine Sim.turn hH hx (by rw [hg]; simp) (Below.of_one h3 rfl rfl rfl (by simp) hother) (by simp) hother ⟨lp',?_,hrel,h3⟩
 show (w.heap.setIfInBounds x.c _)[x.c]? = _
 simp [hin]
theorem setPs_ok {φ:Emb} :∀ {ps:List Nat} {vs:List AVal} {us:List Value} {t t':PT AVal} {tmps:Array Value},setPs (ps.map Pos.ofNat) vs t = some t'→LRel φ vs us→TRel φ nt t tmps→(∀ p ∈ ps,p < nt) →
  us.length = ps.length∧TRel φ nt t' ((ps.zip us).foldl (fun tmps p=>tmps.setIfInBounds p.1 p.2) tmps)
 | [],[],us,t,t',tmps,h,hl,ht,_=>by
  simp [setPs] at h
  subst h
  have:us = []:=hl
  subst this
  exact ⟨rfl,ht⟩
 | [],v :: vs,us,t,t',tmps,h,hl,ht,_=>by simp [setPs] at h
 | p :: ps,[],us,t,t',tmps,h,hl,ht,_=>by simp [setPs] at h
 | p :: ps,v :: vs,us,t,t',tmps,h,hl,ht,hp=>by
  obtain ⟨u,us',rfl,h1,h2⟩:=hl
  simp only [List.map_cons,setPs] at h
  have ht':TRel φ nt (PT.set (Pos.ofNat p) (some v) t) (tmps.setIfInBounds p u) :=
   TRel.put (a:=⟨tmps,[]⟩) ht (d:=some p) (fun x hx=>by cases hx; exact hp p (by simp)) h1
  obtain ⟨g1,g2⟩:=setPs_ok h h2 ht' (fun q hq=>hp q (List.mem_cons_of_mem _ hq))
  exact ⟨by simp [g1],g2⟩
theorem loop_obj (hH:HRel T B φ H w) {l:Pos} {x:Place} (hx:φ l = some x) {r:ALoop} (hg:PT.get l H.t = some (.loop r)) :∃ lp,(Instr.getLoop x.c).run P w = .ok lp w∧w.heap[x.c]? = some (.loop lp)∧loopRel T φ r lp:=by
 obtain ⟨lp,h1,h2,_⟩:=hH.obj l _ x hg hx
 exact ⟨lp,by simp [Instr.getLoop,run_getObj h1],h1,h2⟩
theorem run_setLoop {c:Nat} {lp:Loop} (h:w.heap[c]? = some (.loop lp)) (o:Obj) :(setObj c o).run P w = .ok () { w with heap:=w.heap.setIfInBounds c o }:=by
 simp [setObj,Sem.run,h]
theorem round_ok (hrec:SoundRec P T B rec) (hH:HRel T B φ H w) {l:Pos} {x:Place} (hx:φ l = some x) {args:List AVal} {vs:Array Value} (hl:LRel φ args vs.toList) {v:AVal} {H':AHeap} (h:roundA rec l args H = some (v,H')) :
  ∃ f tmps assign body,(Instr.yield x.c vs).run P w = .ok (.round x.c f tmps assign body) w∧RoundIn Fence.wide 0 P x.c f tmps assign body w (Ends T B φ H w v H'):=by
 unfold roundA at h
 split at h
 ·rename_i r hg
  split at h
  ·rename_i t' ht'
   obtain ⟨lp,q1,q2,hlp⟩:=loop_obj (P:=P) hH hx hg
   obtain ⟨s1,s2,s3,s4,s5,s6,s7,s8⟩:=hlp
   rw [s4] at ht'
   obtain ⟨p1,p2⟩:=setPs_ok ht' hl s3 s5
   have hsz:¬ (vs.size ≠ lp.params.size):=by simp at p1; omega
   refine ⟨lp.fn,(lp.params.zip vs).foldl (fun tmps (t,a)=>tmps.setIfInBounds t a) lp.tmps,lp.assign,lp.body,?_,?_⟩
   ·simp only [Instr.yield,Sem.run_bind,q1,Result.andThen_ok,hsz,if_false,Sem.run_pure]
   ·have hfold:(lp.params.zip vs).foldl (fun tmps (t,a)=>tmps.setIfInBounds t a) lp.tmps = (lp.params.toList.zip vs.toList).foldl (fun tmps p=>tmps.setIfInBounds p.1 p.2) lp.tmps:=by
     rw [← Array.foldl_toList,Array.toList_zip]
    rw [hfold]
    refine roundIn_of_wpIn trivial ?_
    split at h
    ·rename_i a1 H1 hassign
     rw [s6] at hassign
     have w1:=hrec lp.assign lp.tmps.size (some l) (some x.c) ⟨t',[]⟩ H φ ⟨(lp.params.toList.zip vs.toList).foldl (fun tmps p=>tmps.setIfInBounds p.1 p.2) lp.tmps,[]⟩ w hH ⟨p2,by show ([] :List Deferred) = []; rfl⟩ ⟨x,hx,rfl⟩ hassign
     refine wpIn_mono w1 fun e1 act1 wd1 ⟨he1,φ1,hS1,hact1⟩=>?_
     subst he1
     have hx1:=hS1.ext.le _ _ hx
     split at h
     ·rename_i r1 hg1
      split at h
      ·rename_i hst
       obtain ⟨lp1,q1',q2',hlp1⟩:=loop_obj (P:=P) hS1.rel hx1 hg1
       obtain ⟨u1,u2,u3,u4,u5,u6,u7,u8⟩:=hlp1
       have hS2:=Sim.loop hS1.rel hx1 hg1 (r':={ r1 with state:=.busy }) (lp':={ lp1 with state:=.busy }) ⟨rfl,u2,u3,u4,u5,u6,u7,u8⟩
       refine ⟨{ wd1 with heap:=wd1.heap.setIfInBounds x.c (.loop { lp1 with state:=.busy }) },?_,?_⟩
       ·simp only [Instr.beginRound,Sem.run_bind,q1',Result.andThen_ok,run_setLoop q2',u1,hst,Sem.run_pure]
       ·split at h
        ·rename_i e t2 H2 hbody
         rw [s7] at hbody
         have w2:=hrec lp.body lp.tmps.size (some l) (some x.c) a1 _ φ1 act1 _ hS2.rel hact1 ⟨x,hx1,rfl⟩ hbody
         refine wpIn_mono w2 fun e2 act2 wd2 ⟨he2,φ2,hS3,hact2⟩=>?_
         have hx2:=hS3.ext.le _ _ hx1
         have hall:=hS1.trans (hS2.trans hS3)
         split at h
         ·rename_i r2 hg2
          obtain ⟨lp2,q1'',q2'',hlp2⟩:=loop_obj (P:=P) hS3.rel hx2 hg2
          obtain ⟨z1,z2,z3,z4,z5,z6,z7,z8⟩:=hlp2
          subst he2
          split at h
          ·cases h
           have hS4:=Sim.loop hS3.rel hx2 hg2 (r':={ r2 with state:=.ready,pending:=.none }) (lp':={ lp2 with state:=.ready,pending:=none }) ⟨rfl,rfl,z3,z4,z5,z6,z7,z8⟩
           exact ⟨.bool true,_,by simp only [Instr.endRound,Sem.run_bind,q1'',Result.andThen_ok,run_setLoop q2'',Sem.run_pure,Option.isNone_none,if_true],.bool true,φ2,rfl,rfl,hall.trans hS4⟩
          ·cases h
           have hS4:=Sim.loop hS3.rel hx2 hg2 (r':={ r2 with state:=.done,pending:=.ret }) (lp':={ lp2 with state:=.done,pending:=some .ret }) ⟨rfl,rfl,z3,z4,z5,z6,z7,z8⟩
           exact ⟨.bool false,_,by simp only [Instr.endRound,Sem.run_bind,q1'',Result.andThen_ok,run_setLoop q2'',Sem.run_pure,Option.isNone_some,Bool.false_eq_true,if_false],.bool false,φ2,rfl,rfl,hall.trans hS4⟩
          ·rename_i id _
           cases h
           have hS4:=Sim.loop hS3.rel hx2 hg2 (r':={ r2 with state:=.done,pending:=.exit id }) (lp':={ lp2 with state:=.done,pending:=some (.exit id) }) ⟨rfl,rfl,z3,z4,z5,z6,z7,z8⟩
           exact ⟨.bool false,_,by simp only [Instr.endRound,Sem.run_bind,q1'',Result.andThen_ok,run_setLoop q2'',Sem.run_pure,Option.isNone_some,Bool.false_eq_true,if_false],.bool false,φ2,rfl,rfl,hall.trans hS4⟩
          ·cases h
         ·cases h
        ·cases h
      ·cases h
     ·cases h
    ·cases h
  ·cases h
 ·cases h
end
end Go.Am
end

section
namespace Go.Am
open Go Go.RowKit
section
variable {P:Program} {T:Tys} {B:Nat} {φ:Emb} {H:AHeap} {w:World} {nt:Nat} {t:PT AVal} {a:Act} {E:Env} {rec:Rec}
theorem wanted_ok (ht:TRel φ nt t a.tmps) {ops:Array Oper} {o:Oper} {g:Option (Pos × Bool)} (hg:guardOf ops.toList o.guard = some g) {b:Bool} (h:wantedA t g = some b) :Region.wanted o (yielded ops a.tmps) = b:=by
 unfold guardOf at hg
 unfold Region.wanted
 split at hg
 ·rename_i hn
  cases hg
  simp only [wantedA] at h
  cases h
  rw [hn]
 ·rename_i j want hn
  rw [hn]
  split at hg
  ·rename_i oj hj
   split at hg
   ·rename_i d hd
    split at hg
    ·rename_i hlt
     cases hg
     have hlt:d < 2 ^ 31:=by simpa [Nat.blt_eq] using hlt
     have hv:=ht.2.2 d hlt
     have hj':ops[j]? = some oj:=by simpa using hj
     have hy:yielded ops a.tmps j = match a.tmps[d]? with | some (.bool b)=>some b | _=>none:=by
      simp [yielded,hj',hd]
      rfl
     simp only [wantedA] at h
     simp only [hy]
     unfold tget at hv
     split at h
     ·rename_i b' hp
      cases h
      rw [hp] at hv
      have hv:a.tmps.getD d Go.undef = .bool b':=hv
      have:a.tmps[d]? = some (.bool b'):=by
       rw [Array.getD_eq_getD_getElem?] at hv
       cases hc:a.tmps[d]? with
       | none=>rw [hc] at hv; cases hv
       | some v=>rw [hc] at hv; simp at hv; rw [hv]
      rw [this]
      cases b' <;> cases want <;> rfl
     ·rename_i hp
      cases h
      rw [hp] at hv
      obtain ⟨vs,hv,_⟩:=hv
      rw [Array.getD_eq_getD_getElem?] at hv
      cases hc:a.tmps[d]? with
      | none=>rfl
      | some v=>rw [hc] at hv; simp at hv; rw [hv]; rfl
     ·rename_i hp
      cases h
      rw [hp] at hv
      obtain ⟨vs,hv,_⟩:=hv
      rw [Array.getD_eq_getD_getElem?] at hv
      cases hc:a.tmps[d]? with
      | none=>rfl
      | some v=>rw [hc] at hv; simp at hv; rw [hv]; rfl
     ·cases h
    ·cases hg
   ·cases hg
  ·cases hg
theorem CallOk.upon {f:FuncId} {args:Array Value} {v:AVal} {H':AHeap} (h:CallOk P T B φ H w f args v H') {r:Option Nat} {o:Oper} {next:Act→World→Prop} {Q:Exit→Act→World→Prop}
  (hn:∀ u w' φ',VRel φ' v u→Sim T B φ H w φ' H' w'→next (a.put o.dst u) w') :o.uponIn (FR r) 0 P a next Q ((callFunc f args).run P w):=by
 rcases h with ⟨h1,h2⟩ | ⟨u,w',φ',h1,h2,h3⟩
 ·rw [h1]
  refine ⟨FR_depth' r,callsIn_FR (CallsIn.mono h2 fun e w' ⟨u,φ',he,hv,hS⟩=>?_)⟩
  subst he
  exact hn u w' φ' hv hS
 ·rw [h1]
  exact hn u w' φ' h2 h3
theorem Does.upon {m:Sem Next} {v:AVal} {H':AHeap} (h:Does P T B φ H w m v H') {r:Option Nat} {o:Oper} {next:Act→World→Prop} {Q:Exit→Act→World→Prop}
  (hn:∀ u w' φ',VRel φ' v u→Sim T B φ H w φ' H' w'→next (a.put o.dst u) w') :o.uponIn (FR r) 0 P a next Q (m.run P w):=by
 obtain ⟨nx,u,w',φ',h1,h2,h3,h4⟩:=h
 rw [h1]
 rcases h2 with rfl | ⟨rfl,rfl⟩
 ·exact hn u w' φ' h3 h4
 ·exact hn _ w' φ' h3 h4
theorem inv_callF {op:Op} {f:FuncId} {al:List AOpnd} (hc:compOp T op = some (.callF f al)) :∃ c:Call,op = .call c∧c.callee = .value (.func f)∧opnds T c.args.toList = some al:=by
 unfold compOp at hc
 split at hc
 all_goals first
  | (repeat' split at hc) <;> (cases hc; done)
  | skip
 rename_i c
 refine ⟨c,rfl,?_⟩
 unfold compCall at hc
 split at hc
 ·rename_i g hg
  split at hc
  ·cases hc; exact ⟨hg,‹_›⟩
  ·cases hc
 ·split at hc <;> cases hc
 ·cases hc
 ·exfalso
  split at hc
  all_goals (repeat' split at hc) <;> (cases hc; done)
theorem inv_callV {op:Op} {g:AOpnd} {al:List AOpnd} (hc:compOp T op = some (.callV g al)) :∃ (c:Call) (x:Operand),op = .call c∧c.callee = .value x∧opnd T x = some g∧opnds T c.args.toList = some al:=by
 unfold compOp at hc
 split at hc
 all_goals first
  | (repeat' split at hc) <;> (cases hc; done)
  | skip
 rename_i c
 unfold compCall at hc
 split at hc
 ·split at hc <;> cases hc
 ·rename_i x hne hx
  split at hc
  ·cases hc; exact ⟨c,x,rfl,hx,‹_›,‹_›⟩
  ·cases hc
 ·cases hc
 ·exfalso
  split at hc
  all_goals (repeat' split at hc) <;> (cases hc; done)
theorem inv_defer {op:Op} {g:AOpnd} {al:List AOpnd} (hc:compOp T op = some (.defer g al)) :∃ (c:Call) (x:Operand),op = .defer c∧c.callee = .value x∧opnd T x = some g∧opnds T c.args.toList = some al:=by
 unfold compOp at hc
 split at hc
 all_goals first
  | (repeat' split at hc) <;> (cases hc; done)
  | skip
 ·exfalso
  unfold compCall at hc
  (repeat' split at hc) <;> (cases hc; done)
 ·rename_i c
  split at hc
  ·rename_i x hx
   split at hc
   ·cases hc; exact ⟨c,x,rfl,hx,‹_›,‹_›⟩
   ·cases hc
  ·cases hc
theorem exec_ok (hT:TOk2 T P) (hE:EnvOk P T B E) (hrec:SoundRec P T B rec) (hH:HRel T B φ H w) (ht:TRel φ nt t a.tmps) {o:Oper} {ao:AOp} (hc:compOp T o.op = some ao) {v:AVal} {H':AHeap} (h:execA E rec t H ao = some (v,H'))
  {r:Option Nat} {next:Act→World→Prop} {Q:Exit→Act→World→Prop} (hn:∀ u w' φ',VRel φ' v u→Sim T B φ H w φ' H' w'→next (a.put o.dst u) w') :o.wpIn (FR r) 0 P a w next Q:=by
 have hnd:∀ c,o.op ≠ .defer c:=by
  intro c hd
  rw [hd] at hc
  simp only [compOp] at hc
  split at hc
  ·split at hc
   ·cases hc; simp [execA,write,quiet] at h
   ·cases hc
  ·cases hc
 refine ⟨fun f _=>FR_fn r f,?_⟩
 rw [Oper.semAt_eq _ _ _ hnd]
 have loud:write t H ao = some (v,H')→o.uponIn (FR r) 0 P a next Q ((execOp a.eval o).run P w):=fun h=>(write_ok hT hH ht hc h).upon hn
 cases ao with
 | callF f al =>
  simp only [execA] at h
  obtain ⟨c,hoc,hcal,hal⟩:=inv_callF hc
  have hargs:=opnds_ok hH ht hal
  have hrun:(execOp a.eval o).run P w = (callFunc f ((#[] ++ c.args.map a.eval) ++ #[])).run P w:=by
   simp only [execOp,hoc,resolve,hcal,Act.eval,Deferred.ofValue,Sem.run_bind,Sem.run_pure,Result.andThen_ok,invoke]
  rw [hrun]
  exact (callA_ok hT.toTOk hE hrec hH (by simpa using hargs) h).upon hn
 | callV g al =>
  simp only [execA] at h
  obtain ⟨c,x,hoc,hcal,hx,hal⟩:=inv_callV hc
  have hargs:=opnds_ok hH ht hal
  have hxv:=opnd_ok hH ht hx
  unfold callVal at h
  split at h
  ·rename_i f first caps hf
   rw [hf] at hxv
   obtain ⟨a',c',hv,h1,h2⟩:=hxv
   have hrun:(execOp a.eval o).run P w = (callFunc f ((a' ++ c.args.map a.eval) ++ c')).run P w:=by
    simp only [execOp,hoc,resolve,hcal,hv,Deferred.ofValue,Sem.run_bind,Sem.run_pure,Result.andThen_ok,invoke]
   rw [hrun]
   refine (callA_ok hT.toTOk hE hrec hH (args:=first ++ (evs t al ++ caps)) ?_ h).upon hn
   simp only [Array.toList_append,List.append_assoc,Array.toList_map]
   exact h1.append (hargs.append h2)
  ·rename_i l hl
   rw [hl] at hxv
   obtain ⟨y,hy,hv⟩:=hxv
   obtain ⟨f,tmps,assign,body,h1,h2⟩:=round_ok (P:=P) hrec hH hy (vs:=#[] ++ c.args.map a.eval) (by simpa using hargs) h
   have hrun:(execOp a.eval o).run P w = (Instr.yield y.c (#[] ++ c.args.map a.eval)).run P w:=by
    simp only [execOp,hoc,resolve,hcal,hv,Deferred.ofValue,Sem.run_bind,Sem.run_pure,Result.andThen_ok,invoke]
   rw [hrun,h1]
   refine ⟨FR_depth' r,roundIn_FR (RoundIn.mono h2 fun e w' ⟨u,φ',he,hv,hS⟩=>?_)⟩
   subst he
   exact hn u w' φ' hv hS
  ·cases h
 | _=>exact loud h
end
end Go.Am
end
