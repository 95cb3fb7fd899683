/- Part of the proof: AmCode5, AmCode6, AmCode7, AmCode8. -/
import Derived.Test.YtaogphcjlkeakaaGreatDoorAm11
set_option linter.unusedSimpArgs false
set_option linter.unusedVariables false
section
namespace Go.Am
open Go Go.RowKit
section
variable {P:Program} {T:Tys} {B:Nat} {φ:Emb} {H:AHeap} {w:World} {nt:Nat} {t:PT AVal} {a:Act} {E:Env} {rec:Rec}
theorem dstOf_ok {d:Option Tmp} {ad:Option Pos} (h:dstOf nt d = some ad) :ad = d.map Pos.ofNat∧∀ x,d = some x→x < nt:=by
 unfold dstOf at h
 split at h
 ·cases h; exact ⟨rfl,by simp⟩
 ·split at h
  ·rename_i hlt
   cases h
   exact ⟨rfl,fun x hx=>by cases hx; simpa [Nat.blt_eq] using hlt⟩
  ·cases h
theorem compOper_inv {ops:List Oper} {o:Oper} {ao:AOper} (h:compOper T nt ops o = some ao) :guardOf ops o.guard = some ao.guard∧dstOf nt o.dst = some ao.dst∧(compOp T o.op = some ao.op∨ao.op = .bad):=by
 unfold compOper at h
 split at h
 ·rename_i g d hg hd
  split at h
  ·cases h; exact ⟨hg,hd,.inl ‹_›⟩
  ·cases h; exact ⟨hg,hd,.inr rfl⟩
 ·cases h
theorem ActRel.put {aa:AAct} (h:ActRel φ nt aa a) {o:Oper} {d:Option Pos} (hd:dstOf nt o.dst = some d) {v:AVal} {u:Value} (hv:VRel φ v u) :ActRel φ nt ⟨tput aa.t d v,aa.ds⟩ (a.put o.dst u):=by
 obtain ⟨e,hlt⟩:=dstOf_ok hd
 subst e
 refine ⟨TRel.put h.t hlt hv,?_⟩
 have:(a.put o.dst u).defers = a.defers:=by cases o.dst <;> rfl
 rw [this]
 exact h.ds
theorem ops_ok (hT:TOk2 T P) (hE:EnvOk P T B E) (hrec:SoundRec P T B rec) {ops:Array Oper} {r:Option Nat} {φ0:Emb} {H0:AHeap} {w0:World} {e:AExit} {aa':AAct} {H':AHeap} :
  ∀ {l:List Oper} {al:List AOper},compOpers T nt ops.toList l = some al→(r.isSome = true→noDefer al = true)→∀ {φ:Emb} {H:AHeap} {w:World} {t:PT AVal} {ds:List ADef} {a:Act},
   Sim T B φ0 H0 w0 φ H w→ActRel φ nt ⟨t,ds⟩ a→opsA E rec ds al t H = some (e,aa',H')→wpListIn (FR r) 0 P ops (Post T B φ0 H0 w0 nt e aa' H') l a w
 | [],al,hc,hnd,φ,H,w,t,ds,a,hS,hact,h=>by
  simp [compOpers] at hc
  subst hc
  simp only [opsA] at h
  cases h
  exact ⟨rfl,φ,hS,hact⟩
 | o :: l,al,hc,hnd,φ,H,w,t,ds,a,hS,hact,h=>by
  simp only [compOpers] at hc
  split at hc
  ·rename_i ao m ho hm
   cases hc
   obtain ⟨hg,hd,hop⟩:=compOper_inv ho
   have hnd':r.isSome = true→noDefer m = true:=fun hr=>by
    have:=hnd hr
    simp only [noDefer,Bool.and_eq_true] at this
    exact this.2
   have IH:∀ {φ:Emb} {H:AHeap} {w:World} {t:PT AVal} {ds:List ADef} {a:Act},
     Sim T B φ0 H0 w0 φ H w→ActRel φ nt ⟨t,ds⟩ a→opsA E rec ds m t H = some (e,aa',H')→wpListIn (FR r) 0 P ops (Post T B φ0 H0 w0 nt e aa' H') l a w:=ops_ok hT hE hrec hm hnd'
   simp only [opsA] at h
   simp only [wpListIn]
   split at h
   ·rename_i hwant
    rw [wanted_ok hact.t hg hwant,if_pos rfl]
    split at h
    ·
     rename_i f args hao
     have hr:r = none:=by
      cases r with
      | none=>rfl
      | some l =>
       have:=hnd rfl
       simp [noDefer,hao,isDefer] at this
     subst hr
     split at h
     ·rename_i g first caps hf
      rw [hao] at hop
      rcases hop with hop | hop
      ·obtain ⟨c,x,hoc,hcal,hx,hal⟩:=inv_defer hop
       have hxv:=opnd_ok hS.rel hact.t hx
       have hargs:=opnds_ok hS.rel hact.t hal
       rw [hf] at hxv
       obtain ⟨a',c',hv,h1,h2⟩:=hxv
       refine ⟨fun f _=>trivial,?_⟩
       have hrun:(o.semAt (FR none).round a.eval).run P w = .ok (.defer { target:=.fn (.func g) c',args:=a' ++ c.args.map a.eval }) w:=by
        rw [FR_round,Oper.semAt_none]
        simp only [execOp,hoc,resolve,hcal,hv,Deferred.ofValue,Sem.run_bind,Sem.run_pure,Result.andThen_ok]
       rw [hrun]
       have hact2:ActRel φ nt ⟨t,.fn g (first ++ (evs t args ++ caps)) :: ds⟩ { a with defers:={ target:=.fn (.func g) c',args:=a' ++ c.args.map a.eval } :: a.defers }:=by
        refine ⟨hact.t,_,_,rfl,⟨c',rfl,?_⟩,hact.ds⟩
        simp only [Array.toList_append,List.append_assoc,Array.toList_map]
        exact h1.append (hargs.append h2)
       exact IH hS (hact2.put hd VRel.undef) h
      ·cases hop
     ·cases h
    ·rename_i hndef
     split at h
     ·rename_i v H1 hex
      rw [forceV_eq] at h
      rcases hop with hop | hop
      ·refine exec_ok hT hE hrec hS.rel hact.t hop hex fun u w' φ' hv hS'=>?_
       exact IH (hS.trans hS') ((hact.mono hS'.ext.le).put hd hv) h
      ·rw [hop] at hex; simp [execA,write,quiet] at hex
     ·cases h
   ·rename_i hwant
    rw [wanted_ok hact.t hg hwant,if_neg (by simp)]
    exact ⟨fun f _=>FR_fn r f,IH hS (hact.put hd VRel.undef) h⟩
   ·cases h
  ·cases hc
theorem region_ok (hT:TOk2 T P) (hE:EnvOk P T B E) (hrec:SoundRec P T B rec) {ops:Array Oper} {id:Nat} {r:Option Nat} {al:List AOper} (hc:compOpers T nt ops.toList ops.toList = some al) (hnd:r.isSome = true→noDefer al = true)
  (hH:HRel T B φ H w) {aa:AAct} (hact:ActRel φ nt aa a) {e:AExit} {aa':AAct} {H':AHeap} (h:opsA E rec aa.ds al aa.t H = some (e,aa',H')) :
  (Code.region id ops false).wpIn (FR r) 0 P (Post T B φ H w nt e aa' H') a w:=by
 refine wpIn_region ?_
 have hlist:=wpOpsIn_eq_wpListIn (F:=FR r) (n:=0) (P:=P) (ops:=ops) (Q:=Post T B φ H w nt e aa' H') ops.toList 0 (fun j=>by simp)
 rw [List.range_eq_range',show ops.size = ops.toList.length by simp,hlist]
 exact ops_ok hT hE hrec hc hnd (Sim.refl hH) hact h
end
end Go.Am
end

section
namespace Go.Am
open Go Go.RowKit
section
variable {F:Fence} {n:Nat} {P:Program}
def scopeRounds (F:Fence) (n:Nat) (P:Program) (body:Code) (Q:Exit→Act→World→Prop) :Nat→Code→Act→World→Prop
 | 0,_,_,_=>False
 | m + 1,c,a,w=>c.wpIn F n P (fun e a' w'=>match e with
   | .goto l=>match findLabel body l with
    | some rest=>scopeRounds F n P body Q m rest a' w'
    | none=>Q (.goto l) a' w'
   | e=>Q e a' w') a w
theorem exitTo_inScope (id:Nat) (c:Code) (k:List Item) :exitTo id (.inScope c :: k) = exitTo id k:=by simp [exitTo]
theorem wpIn_scope_rounds {body:Code} {Q:Exit→Act→World→Prop} {a:Act} {w:World} (m:Nat) (h:scopeRounds F n P body Q m body a w) :(Code.scope body).wpIn F n P Q a w:=by
 intro b k cs hro hb hr
 have s1:∀ {a:Act} {w:World},step P (lone (b.atR a (.code (.scope body) :: k)) cs w) = .next (lone (b.atR a (.code body :: .inScope body :: k)) cs w):=by
  intro a w
  exact step_lone_go (by simp [stepG,stepG.exec,Frame.atR])
 have s2:∀ {a:Act} {w:World},step P (lone (b.atR a (.inScope body :: k)) cs w) = .next (lone (b.atR a k) cs w):=by
  intro a w
  exact step_lone_go (by simp [stepG,stepG.exec,Frame.atR])
 have key:∀ m c a w,scopeRounds F n P body Q m c a w →
   ∃ e a' w',Q e a' w'∧ArrivesIn (Machine.fenced P F) P (lone (b.atR a (.code c :: .inScope body :: k)) cs w) b k cs e a' w':=by
  intro m
  induction m with
  | zero=>intro c a w h; exact h.elim
  | succ m ih =>
   intro c a w h
   obtain ⟨e,a₁,w₁,hq,harr⟩:=h b (.inScope body :: k) cs hro hb hr
   cases e with
   | normal=>exact ⟨.normal,a₁,w₁,hq,StepsIn.trans harr (.one (fenced_calm hb hr rfl) s2)⟩
   | exit id =>
    exact ⟨.exit id,a₁,w₁,hq,fun k' hk=>harr.1 k' (by rw [exitTo_inScope]; exact hk),fun hr' hk=>harr.2 hr' (by rw [exitTo_inScope]; exact hk)⟩
   | goto l =>
    simp only at hq
    cases hf:findLabel body l with
    | some rest =>
     rw [hf] at hq
     obtain ⟨e₂,a₂,w₂,hq₂,harr₂⟩:=ih rest a₁ w₁ hq
     exact ⟨e₂,a₂,w₂,hq₂,.of_steps (harr.1 _ (by simp [gotoIn,hf])) harr₂⟩
    | none =>
     rw [hf] at hq
     have hx:gotoIn l (.inScope body :: k) = gotoIn l k:=by simp [gotoIn,hf]
     exact ⟨.goto l,a₁,w₁,hq,fun k' hk=>harr.1 k' (by rw [hx]; exact hk),fun hr' hk=>harr.2 hr' (by rw [hx]; exact hk)⟩
   | ret=>exact ⟨.ret,a₁,w₁,hq,harr⟩
   | panic ch=>exact ⟨.panic ch,a₁,w₁,hq,harr⟩
   | outgrown=>exact ⟨.outgrown,a₁,w₁,hq,harr⟩
 obtain ⟨e,a',w',hq,harr⟩:=key m body a w h
 exact ⟨e,a',w',hq,.of_steps (.one (fenced_calm hb hr rfl) s1) harr⟩
end
theorem find_comp (T:Tys) (nt:Nat) (r:Bool) :∀ (c:Code) (l:Nat),(comp T nt r c).find l = (findLabel c l).map (comp T nt r)
 | .seq a b,l=>by
  simp only [comp,ACode.find,findLabel,find_comp T nt r a l,find_comp T nt r b l]
  cases findLabel a l <;> simp [comp]
 | .label l',l=>by
  simp only [comp,ACode.find,findLabel]
  by_cases h:l' = l
  ·subst h; simp [comp]
  ·have h1:Nat.beq l' l = false:=by
    cases hb:Nat.beq l' l with
    | false=>rfl
    | true=>exact absurd (Nat.eq_of_beq_eq_true hb) h
   have h2:(l' == l) = false:=by simpa using h
   simp [h1,h2]
 | .skip,_=>rfl
 | .region id ops d,l=>by
  simp only [comp,findLabel]
  repeat' split
  all_goals rfl
 | .cond c a b,l=>by
  simp only [comp,findLabel]
  split <;> rfl
 | .block _ _,_=>rfl
 | .loop _,_=>rfl
 | .rangeFunc f ps a b,l=>by
  simp only [comp,findLabel]
  split <;> rfl
 | .exit _,_=>rfl
 | .ret,_=>rfl
 | .scope _,_=>rfl
 | .goto _,_=>rfl
 | .refuse _,_=>rfl
end Go.Am
end

section
namespace Go.Am
open Go Go.RowKit
section
variable {P:Program} {T:Tys} {B:Nat} {φ:Emb} {H:AHeap} {w:World} {nt:Nat} {t:PT AVal} {a:Act} {E:Env} {rec:Rec}
def DrawSound (P:Program) (T:Tys) (B:Nat) (E:Env) (rec:Rec) :Prop :=
 ∀ (ops:Array Oper) (id nt:Nat) (r:Option Nat) (S:List ADraw) (φ:Emb) (H:AHeap) (w:World) (aa:AAct) (a:Act) (e:AExit) (aa':AAct) (H':AHeap),
  compDraw T nt ops.toList = some S→HRel T B φ H w→ActRel φ nt aa a→drawA E rec aa.ds S aa.t H [] = some (e,aa',H')→(Code.region id ops true).wpIn (FR r) 0 P (Post T B φ H w nt e aa' H') a w
theorem Post.trans {φ0:Emb} {H0:AHeap} {w0:World} (hS:Sim T B φ0 H0 w0 φ H w) {e:AExit} {aa':AAct} {H':AHeap} {e':Exit} {a':Act} {w':World} (h:Post T B φ H w nt e aa' H' e' a' w') :Post T B φ0 H0 w0 nt e aa' H' e' a' w':=by
 obtain ⟨h1,φ',h2,h3⟩:=h
 exact ⟨h1,φ',hS.trans h2,h3⟩
theorem range_ok (hT:TOk2 T P) (hE:EnvOk P T B E) (hrec:SoundRec P T B rec) {g:Operand} {ps:Array Tmp} {assign body:Code} {x:AOpnd} (hx:opnd T g = some x) (hps:(ps.toList.all (Nat.blt · nt)) = true)
  {r:Option Nat} (hH:HRel T B φ H w) {aa:AAct} (hact:ActRel φ nt aa a)
  {dfr:Pos} {ds:List ADef} {H1:AHeap} {v:AVal} {H3:AHeap} {rr:ALoop} {gf:FuncId} {first caps:List AVal} (hgf:x.ev aa.t = .func gf first caps)
  (hcall:callF E rec gf (first ++ (.yld H1.nx :: caps)) (H1.new (.loop ⟨.ready,.none,aa.t,ps.toList.map Pos.ofNat,comp T nt true assign,comp T nt true body,dfr⟩)).2 = some (v,H3))
  (hg3:PT.get H1.nx H3.t = some (.loop rr)) (hst:rr.state ≠ .busy)
  (henter:∃ (c:Nat) (mark:List Deferred) (φ1:Emb) (w1:World) (y:Place),((r = none∧c = w.heap.size∧mark = [{ target:=.collected c,args:=#[] }]∧w1 = w.alloc (.deferred (some [])))∨(∃ l lp,r = some l∧(Instr.getLoop l).run P w = .ok lp w∧c = lp.defers∧mark = []∧w1 = w))∧Sim T B φ H w φ1 H1 w1∧φ1 dfr = some y∧c = y.c∧dsRel φ1 ds (mark ++ a.defers)) :
  (Code.rangeFunc g ps assign body).wpIn (FR r) 0 P (Post T B φ H w nt (match rr.pending with | .none=>.normal | .ret=>.ret | .exit id=>.exit id) ⟨aa.t,ds⟩ (H3.kill H1.nx)) a w:=by
 refine wpIn_rangeFunc fun fn _=>?_
 obtain ⟨c,mark,φ1,w1,y,he,hS1,hy,hcy,hds⟩:=henter
 have hnt:a.tmps.size = nt:=hact.t.1
 let lp:Loop:={ state:=.ready,pending:=none,fn:=fn,tmps:=a.tmps,params:=ps,assign:=assign,body:=body,defers:=c }
 have hlp:loopRel T φ1 ⟨.ready,.none,aa.t,ps.toList.map Pos.ofNat,comp T nt true assign,comp T nt true body,dfr⟩ lp:=by
  refine ⟨rfl,rfl,?_,rfl,?_,?_,?_,y,hy,hcy⟩
  ·show TRel φ1 a.tmps.size aa.t a.tmps
   rw [hnt]; exact hact.t.mono hS1.ext.le
  ·intro z hz
   have:=List.all_eq_true.1 hps z hz
   show z < a.tmps.size
   rw [hnt]; simpa [Nat.blt_eq] using this
  ·show _ = comp T a.tmps.size true assign
   rw [hnt]
  ·show _ = comp T a.tmps.size true body
   rw [hnt]
 have hS2:=Sim.new hS1.rel (.loop ⟨.ready,.none,aa.t,ps.toList.map Pos.ofNat,comp T nt true assign,comp T nt true body,dfr⟩) (.loop lp) 0 ⟨lp,by show (w1.heap.push _)[w1.heap.size]? = _; simp,hlp,hS1.rel.base⟩
 have hS12:=hS1.trans hS2
 have hxv:=opnd_ok hS12.rel (hact.t.mono hS12.ext.le) hx
 rw [hgf] at hxv
 obtain ⟨a',c',hv,h1,h2⟩:=hxv
 have hyl:(φ1.put H1.nx ⟨w1.heap.size,0,0⟩) H1.nx = some ⟨w1.heap.size,0,0⟩:=Emb.put_same _ _ _
 have hret:=callF_ok hT.toTOk hE hrec hS12.rel (args:=first ++ (.yld H1.nx :: caps)) (vs:=(a' ++ #[.func (.yield w1.heap.size) #[] #[]]) ++ c') (by
  simp only [Array.toList_append,List.append_assoc]
  exact h1.append ⟨_,_,rfl,⟨_,hyl,rfl⟩,h2⟩) hcall
 refine ⟨w1.heap.size,mark,w1.alloc (.loop lp),{ target:=.fn (.func gf) c',args:=a' ++ #[.func (.yield w1.heap.size) #[] #[]] },w1.alloc (.loop lp),gf,(a' ++ #[.func (.yield w1.heap.size) #[] #[]]) ++ c',w1.alloc (.loop lp),?_,?_,fun f' _=>FR_fn r f',by exact hret.1,FR_depth' r,?_⟩
 ·rw [FR_round]
  rcases he with ⟨rfl,rfl,rfl,rfl⟩ | ⟨l,lp0,rfl,hl,rfl,rfl,rfl⟩
  ·simp only [Instr.enterLoop,Sem.run_bind,run_newObj_alloc,Sem.run_pure,Result.andThen_ok]
   rfl
  ·simp only [Instr.enterLoop,Sem.run_bind,hl,run_newObj_alloc,Sem.run_pure,Result.andThen_ok]
   rfl
 ·simp only [resolve,hv,Deferred.ofValue,Sem.run_pure]
  simp [Act.eval]
 ·refine callsIn_FR (CallsIn.mono hret.2 fun e w' ⟨u,φ',hu,hvu,hS3⟩=>?_)
  subst hu
  have hl3:=hS3.ext.le _ _ hyl
  obtain ⟨lp3,q1,q2,z1,z2,z3,z4,z5,z6,z7,z8⟩:=loop_obj (P:=P) hS3.rel hl3 hg3
  have hS4:=Sim.loop hS3.rel hl3 hg3 (r':={ rr with state:=.exhausted }) (lp':={ lp3 with state:=.exhausted }) ⟨rfl,z2,z3,z4,z5,z6,z7,z8⟩
  have hS5:=hS4.trans (Sim.kill hS4.rel hl3)
  rw [kill_upd] at hS5
  have hall:=hS12.trans (hS3.trans hS5)
  have hle:=(hS2.trans (hS3.trans hS5)).ext.le
  have hfin:ActRel φ' nt ⟨aa.t,ds⟩ { a with defers:=mark ++ a.defers }:=⟨hact.t.mono hall.ext.le,hds.mono hle⟩
  have hbusy:(lp3.state == LoopState.busy) = false:=by
   rw [z1]
   cases hr:rr.state <;> first | rfl | exact absurd hr hst
  refine ⟨lp3.pending,{ w' with heap:=w'.heap.setIfInBounds w1.heap.size (.loop { lp3 with state:=.exhausted }) },by simp only [Instr.endLoop,Sem.run_bind,q1,Result.andThen_ok,hbusy,Bool.false_eq_true,if_false,run_setLoop q2,Sem.run_pure],?_⟩
  have hpost:∀ ex,Post T B φ H w nt ex ⟨aa.t,ds⟩ (H3.kill H1.nx) (exitOf ex) { a with defers:=mark ++ a.defers } { w' with heap:=w'.heap.setIfInBounds w1.heap.size (.loop { lp3 with state:=.exhausted }) } :=
   fun ex=>⟨rfl,φ',hall,hfin⟩
  generalize ({ w' with heap:=w'.heap.setIfInBounds w1.heap.size (.loop { lp3 with state:=.exhausted }) } :World) = W at hpost ⊢
  generalize H3.kill H1.nx = HH at hpost ⊢
  rw [z2]
  cases hp:rr.pending with
  | none=>exact hpost .normal
  | ret=>exact wpIn_ret (hpost .ret)
  | exit id=>exact wpIn_exit (hpost (.exit id))
end
end Go.Am
end

section
namespace Go.Am
open Go Go.RowKit
section
variable {P:Program} {T:Tys} {B:Nat} {φ:Emb} {H:AHeap} {w:World} {nt:Nat} {t:PT AVal} {a:Act} {E:Env} {rec:Rec}
def LoopSound (P:Program) (T:Tys) (B:Nat) (E:Env) (n:Nat) :Prop:=∀ (b:Code) (nt:Nat) (ro:Option Pos) (ro':Option Nat) (φ0:Emb) (H0:AHeap) (w0:World) (aa:AAct) (H:AHeap) (φ:Emb) (a:Act) (w:World),
 Sim T B φ0 H0 w0 φ H w→ActRel φ nt aa a→roRel φ ro ro'→∀ {e aa' H'},ev E n (.loop (comp T nt ro'.isSome b)) ro aa H = some (e,aa',H')→Code.roundsIn (FR ro') 0 P b (Post T B φ0 H0 w0 nt e aa' H') n a w
theorem scope_ok (hrec:SoundRec P T B rec) {b:Code} {ro:Option Pos} {ro':Option Nat} {φ0:Emb} {H0:AHeap} {w0:World} {e:AExit} {aa':AAct} {H':AHeap} :
  ∀ {m:Nat} {c:Code} {φ:Emb} {H:AHeap} {w:World} {aa:AAct} {a:Act},Sim T B φ0 H0 w0 φ H w→ActRel φ nt aa a→roRel φ ro ro' →
   scopeA rec (comp T nt ro'.isSome b) m (comp T nt ro'.isSome c) ro aa H = some (e,aa',H')→scopeRounds (FR ro') 0 P b (Post T B φ0 H0 w0 nt e aa' H') m c a w
 | 0,c,φ,H,w,aa,a,hS,hact,hro,h=>by simp [scopeA] at h
 | m + 1,c,φ,H,w,aa,a,hS,hact,hro,h=>by
  simp only [scopeA] at h
  simp only [scopeRounds]
  split at h
  ·rename_i l a1 H1 hr
   refine wpIn_mono (hrec c nt ro ro' aa H φ a w hS.rel hact hro hr) fun e' a' w' ⟨he,φ',hS',hact'⟩=>?_
   subst he
   simp only [exitOf]
   rw [find_comp] at h
   cases hf:findLabel b l with
   | none =>
    rw [hf] at h
    cases h
    exact ⟨rfl,φ',hS.trans hS',hact'⟩
   | some rest =>
    rw [hf] at h
    exact scope_ok hrec (hS.trans hS') hact' (hro.mono hS'.ext.le) h
  ·rename_i hne
   refine wpIn_mono (hrec c nt ro ro' aa H φ a w hS.rel hact hro h) fun e' a' w' ⟨he,φ',hS',hact'⟩=>?_
   subst he
   have hp:Post T B φ0 H0 w0 nt e aa' H' (exitOf e) a' w':=⟨rfl,φ',hS.trans hS',hact'⟩
   cases e with
   | goto l=>exact (hne l aa' H' h).elim
   | normal=>exact hp
   | ret=>exact hp
   | exit id=>exact hp
theorem ev_ok (hT:TOk2 T P) (hE:EnvOk P T B E) (hdraw:∀ rec,SoundRec P T B rec→DrawSound P T B E rec) :∀ n,SoundRec P T B (ev E n)∧LoopSound P T B E n
 | 0=>⟨fun c nt ro ro' aa H φ a w _ _ _ _ _ _ h=>by simp [ev] at h,fun b nt ro ro' φ0 H0 w0 aa H φ a w _ _ _ _ _ _ h=>by simp [ev] at h⟩
 | n + 1=>by
  obtain ⟨IH,IHL⟩:=ev_ok hT hE hdraw n
  have loops:LoopSound P T B E (n + 1):=by
   intro b nt ro ro' φ0 H0 w0 aa H φ a w hS hact hro e aa' H' h
   simp only [ev] at h
   rw [roundsIn_succ]
   split at h
   ·rename_i a1 H1 hr
    refine wpIn_mono (IH b nt ro ro' aa H φ a w hS.rel hact hro hr) fun e' a' w' ⟨he,φ',hS',hact'⟩=>?_
    subst he
    exact IHL b nt ro ro' φ0 H0 w0 a1 H1 φ' a' w' (hS.trans hS') hact' (hro.mono hS'.ext.le) h
   ·rename_i hne
    refine wpIn_mono (IH b nt ro ro' aa H φ a w hS.rel hact hro h) fun e' a' w' ⟨he,φ',hS',hact'⟩=>?_
    subst he
    have hp:Post T B φ0 H0 w0 nt e aa' H' (exitOf e) a' w':=⟨rfl,φ',hS.trans hS',hact'⟩
    cases e with
    | normal=>exact (hne aa' H' h).elim
    | goto l=>exact hp
    | ret=>exact hp
    | exit id=>exact hp
  refine ⟨?_,loops⟩
  intro c nt ro ro' aa H φ a w hH hact hro e aa' H' h
  have id0:Sim T B φ H w φ H w:=Sim.refl hH
  cases c with
  | skip =>
   simp only [comp,ev] at h
   cases h
   exact wpIn_skip ⟨rfl,φ,id0,hact⟩
  | label l =>
   simp only [comp,ev] at h
   cases h
   exact wpIn_label ⟨rfl,φ,id0,hact⟩
  | exit id =>
   simp only [comp,ev] at h
   cases h
   exact wpIn_exit ⟨rfl,φ,id0,hact⟩
  | goto l =>
   simp only [comp,ev] at h
   cases h
   exact wpIn_goto ⟨rfl,φ,id0,hact⟩
  | ret =>
   simp only [comp,ev] at h
   cases h
   exact wpIn_ret ⟨rfl,φ,id0,hact⟩
  | refuse u=>simp [comp,ev] at h
  | region id ops draw =>
   cases draw with
   | false =>
    simp only [comp] at h
    split at h
    ·rename_i al hal
     split at h
     ·simp [ev] at h
     ·rename_i hne
      simp only [ev] at h
      refine region_ok hT hE IH hal (fun hr=>?_) hH hact h
      cases hn:noDefer al with
      | true=>rfl
      | false=>exact (hne hr hn).elim
    ·simp [ev] at h
   | true =>
    simp only [comp] at h
    split at h
    ·rename_i S hS
     simp only [ev] at h
     exact hdraw _ IH ops id nt ro' S φ H w aa a e aa' H' hS hH hact h
    ·simp [ev] at h
  | seq x y =>
   simp only [comp,ev] at h
   refine wpIn_seq ?_
   split at h
   ·rename_i a1 H1 hr
    refine wpIn_mono (IH x nt ro ro' aa H φ a w hH hact hro hr) fun e' a' w' ⟨he,φ',hS',hact'⟩=>?_
    subst he
    exact wpIn_mono (IH y nt ro ro' a1 H1 φ' a' w' hS'.rel hact' (hro.mono hS'.ext.le) h) fun e2 a2 w2 hp=>Post.trans hS' hp
   ·rename_i hne
    refine wpIn_mono (IH x nt ro ro' aa H φ a w hH hact hro h) fun e' a' w' hp=>?_
    obtain ⟨he,_⟩:=id hp
    subst he
    cases e with
    | normal=>exact (hne aa' H' h).elim
    | goto l=>exact hp
    | ret=>exact hp
    | exit id=>exact hp
  | cond x c1 c2 =>
   simp only [comp] at h
   split at h
   ·rename_i ax hx
    simp only [ev] at h
    have hv:=opnd_ok hH hact.t hx
    split at h
    ·rename_i hb
     rw [hb] at hv
     exact wpIn_cond_true hv (IH c1 nt ro ro' aa H φ a w hH hact hro h)
    ·rename_i hb
     rw [hb] at hv
     exact wpIn_cond_false hv (IH c2 nt ro ro' aa H φ a w hH hact hro h)
    ·cases h
   ·simp [ev] at h
  | block id b =>
   simp only [comp,ev] at h
   refine wpIn_block ?_
   split at h
   ·rename_i id' a1 H1 hr
    refine wpIn_mono (IH b nt ro ro' aa H φ a w hH hact hro hr) fun e' a' w' ⟨he,φ',hS',hact'⟩=>?_
    subst he
    split at h
    ·rename_i hb
     have hb:=Nat.eq_of_beq_eq_true hb
     subst hb
     cases h
     simp only [exitOf,Exit.inBlock,if_true]
     exact ⟨rfl,φ',hS',hact'⟩
    ·rename_i hb
     cases h
     have hne:¬ (id' = id):=fun e=>by rw [e] at hb; rw [Nat.beq_refl] at hb; cases hb
     simp only [exitOf,Exit.inBlock,if_neg hne]
     exact ⟨rfl,φ',hS',hact'⟩
   ·rename_i hne
    refine wpIn_mono (IH b nt ro ro' aa H φ a w hH hact hro h) fun e' a' w' hp=>?_
    have hp':=hp
    obtain ⟨he,_⟩:=hp'
    subst he
    cases e with
    | normal=>exact hp
    | goto l=>exact hp
    | ret=>exact hp
    | exit id'=>exact (hne id' aa' H' h).elim
  | loop b =>
   simp only [comp] at h
   exact wpIn_loop_rounds (n + 1) (loops b nt ro ro' φ H w aa H φ a w id0 hact hro h)
  | rangeFunc f ps x y =>
   simp only [comp] at h
   split at h
   ·rename_i ax hx hps
    simp only [ev] at h
    split at h
    ·rename_i dfr ds h1 hen
     have henter:∃ (c:Nat) (mark:List Deferred) (φ1:Emb) (w1:World) (y:Place),((ro' = none∧c = w.heap.size∧mark = [{ target:=.collected c,args:=#[] }]∧w1 = w.alloc (.deferred (some [])))∨(∃ l lp,ro' = some l∧(Instr.getLoop l).run P w = .ok lp w∧c = lp.defers∧mark = []∧w1 = w)) ∧
       Sim T B φ H w φ1 h1 w1∧φ1 dfr = some y∧c = y.c∧dsRel φ1 ds (mark ++ a.defers):=by
      cases ro with
      | none =>
       cases ro' with
       | some l=>exact hro.elim
       | none =>
        simp only [AHeap.new] at hen
        cases hen
        have hS:=Sim.new hH (.dfr true) (.deferred (some [])) 0 ⟨by show (w.heap.push _)[w.heap.size]? = _; simp,hH.base⟩
        exact ⟨w.heap.size,_,_,_,⟨w.heap.size,0,0⟩,.inl ⟨rfl,rfl,rfl,rfl⟩,hS,Emb.put_same _ _ _,rfl,_,_,rfl,⟨⟨w.heap.size,0,0⟩,Emb.put_same _ _ _,rfl⟩,hact.ds.mono hS.ext.le⟩
      | some l =>
       cases ro' with
       | none=>exact hro.elim
       | some l' =>
        obtain ⟨y,hy,rfl⟩:=hro
        simp only at hen
        split at hen
        ·rename_i rl hg
         cases hen
         obtain ⟨lp,q1,q2,z1,z2,z3,z4,z5,z6,z7,yd,z8,z9⟩:=loop_obj (P:=P) hH hy hg
         exact ⟨lp.defers,[],φ,w,yd,.inr ⟨_,lp,rfl,q1,rfl,rfl,rfl⟩,id0,z8,z9,hact.ds⟩
        ·cases hen
     simp only [AHeap.new] at h
     split at h
     ·rename_i v h3 hcall
      split at hcall
      ·rename_i g first caps hg
       split at h
       ·rename_i rr hget
        split at h
        ·cases h
        ·rename_i hst
         have:=range_ok (assign:=x) (body:=y) hT hE IH hx hps (r:=ro') hH hact hg hcall hget hst henter
         split at h
         all_goals
          rename_i hp
          cases h
          rw [hp] at this
          exact this
       ·cases h
      ·cases hcall
     ·cases h
    ·cases h
   ·simp [ev] at h
  | scope b =>
   simp only [comp,ev] at h
   exact wpIn_scope_rounds n (scope_ok IH id0 hact hro h)
end
end Go.Am
end
