/- Part of the proof: AmRow, AmRange, AmPart. -/
import Derived.Test.YtaogphcjlkeakaaGreatDoorAm21
import Derived.Sort.Grow
import Derived.Test.YtaogphcjlkeakaaGreatDoorAm25
import Derived.Test.YtaogphcjlkeakaaGreatDoorAm20
import Derived.Test.YtaogphcjlkeakaaGreatDoorAm26
set_option linter.unusedSimpArgs false
set_option linter.unusedVariables false
section
namespace Go.Am
open Go Go.RowKit
open Go.Sort (grow putRow mapBlock putCells Holds)
section
variable {P:Program} {T:Tys} {B:Nat} {φ:Emb} {H:AHeap} {w:World}
theorem putRow_size {α:Type} [Inhabited α] (enc:α→Value) (w:World) (blk off:Nat) (d:Array α) :(putRow enc w blk off d).heap.size = w.heap.size:=by
 simp [putRow,mapBlock]
theorem putRow_other {α:Type} [Inhabited α] (enc:α→Value) (w:World) (blk off:Nat) (d:Array α) {c:Nat} (h:c ≠ blk) :(putRow enc w blk off d).heap[c]? = w.heap[c]?:=by
 simp only [putRow,mapBlock]
 rw [Array.getElem?_modify]
 rw [if_neg (fun e:blk = c=>h e.symm)]
theorem putRow_at {α:Type} [Inhabited α] (enc:α→Value) (w:World) (blk off:Nat) (d:Array α) {arr:Array Value} {e:TypeId} {fz:Nat × Nat} (h:w.heap[blk]? = some (.cells arr e fz)) :(putRow enc w blk off d).heap[blk]? = some (.cells (putCells enc off d arr) e fz):=by
 simp only [putRow,mapBlock]
 rw [Array.getElem?_modify,h]
 simp [Go.Sort.onCells]
theorem Sim.row {α:Type} [Inhabited α] {enc:α→Value} {d:Array α} {b:Pos} {x:Place} (hH:HRel T B φ H w) (hx:φ b = some x) {l new:List AVal} (hb:PT.get b H.t = some (.cells l false false)) (hlen:new.length = d.size) (hle:new.length≤l.length) (hd:∀ (j:Nat) (a:AVal),new[j]? = some a→VRel φ a (enc d[j]!)) (q:Nat) (os:Array Obj) :
  Sim T B φ H w φ (H.upd b (.cells (new ++ l.drop new.length) false false)) (grow (putRow enc (Go.Sort.ahead w q) x.c 0 d) os):=by
 obtain ⟨arr,e,lo,hi,g1,g2,g3,g4,g5,g6,g7⟩:=hH.obj b _ x hb hx
 obtain ⟨g6,hs0⟩:=g6 rfl rfl
 have hBx:=g7 rfl
 have h1:Sim T B φ H w φ (H.upd b (.cells (new ++ l.drop new.length) false false)) (putRow enc (Go.Sort.ahead w q) x.c 0 d):=by
  have hother:∀ c,c ≠ x.c→(putRow enc (Go.Sort.ahead w q) x.c 0 d).heap[c]? = w.heap[c]?:=fun c hc=>putRow_other enc (Go.Sort.ahead w q) x.c 0 d hc
  refine Sim.turn hH hx (by rw [hb]; simp) (Below.of_one (c:=x.c) hBx rfl rfl rfl (putRow_size enc (Go.Sort.ahead w q) x.c 0 d) hother) (putRow_size enc (Go.Sort.ahead w q) x.c 0 d) hother ?_
  refine ⟨_,e,lo,hi,putRow_at enc (Go.Sort.ahead w q) x.c 0 d g1,by simp [putCells,g2],?_,fun i a hi=>?_,g5,fun _ _=>⟨g6,hs0⟩,fun _=>hBx⟩
  ·simp only [List.length_append,List.length_drop]; omega
  ·have hin:i < (new ++ l.drop new.length).length:=(List.getElem?_eq_some_iff.1 hi).1
   simp only [List.length_append,List.length_drop] at hin
   rw [hs0,Nat.zero_add]
   by_cases hj:i < new.length
   ·have ha:new[i]? = some a:=by rw [← hi,List.getElem?_append_left hj]
    refine ⟨enc d[i]!,?_,hd i a ha⟩
    have:i < arr.size:=by omega
    rw [putCells,Array.getElem?_mapIdx,Array.getElem?_eq_getElem this]
    simp [hlen ▸ hj]
   ·have ha:l[i]? = some a:=by
     rw [List.getElem?_append_right (by omega),List.getElem?_drop] at hi
     rw [show new.length + (i - new.length) = i by omega] at hi
     exact hi
    obtain ⟨v,e1,e2⟩:=g4 i a ha
    refine ⟨v,?_,e2⟩
    rw [hs0,Nat.zero_add] at e1
    rw [putCells,Array.getElem?_mapIdx,e1]
    simp [show ¬ i < d.size by omega]
 refine h1.trans ?_
 have hb2:Below (putRow enc (Go.Sort.ahead w q) x.c 0 d).heap.size (putRow enc (Go.Sort.ahead w q) x.c 0 d) (grow (putRow enc (Go.Sort.ahead w q) x.c 0 d) os):=by
  refine ⟨rfl,rfl,rfl,by simp [grow],fun k hk=>?_⟩
  show ((putRow enc (Go.Sort.ahead w q) x.c 0 d).heap ++ os)[k]? = _
  rw [Array.getElem?_append_left hk]
 exact Sim.grown h1.rel hb2
theorem row_holds {b:Pos} {x:Place} (hH:HRel T B φ H w) (hx:φ b = some x) {l new:List AVal} (hb:PT.get b H.t = some (.cells (new ++ l) false false)) {α:Type} [Inhabited α] {enc:α→Value} {d:Array α} (hlen:new.length = d.size)
  (hd:∀ (j:Nat) (a:AVal) (v:Value),new[j]? = some a→VRel φ a v→v = enc d[j]!) :Holds enc w x.c 0 d∧x.s = 0:=by
 obtain ⟨arr,e,lo,hi,g1,g2,g3,g4,g5,g6,g7⟩:=hH.obj b _ x hb hx
 obtain ⟨g6,hs0⟩:=g6 rfl rfl
 refine ⟨fun j hj=>?_,hs0⟩
 have hjn:j < new.length:=by omega
 obtain ⟨v,e1,e2⟩:=g4 j new[j] (by rw [List.getElem?_append_left hjn,List.getElem?_eq_getElem hjn])
 have hv:=hd j _ v (List.getElem?_eq_getElem hjn) e2
 subst hv
 rw [hs0,Nat.zero_add] at e1
 refine ⟨?_,?_⟩
 ·rw [cells_at g1,Nat.zero_add]
  exact e1
 ·simp only [World.frozen?,g1]
  simp
  omega
end
end Go.Am
end

section
namespace Go.Am
open Go Go.RowKit
open Go.ChangeMaps (setBlock)
section
variable {P:Program} {T:Tys} {B:Nat} {E:Env} {nt:Nat} {φ0:Emb} {H0:AHeap} {w0:World}
def St (T:Tys) (B nt:Nat) (φ0:Emb) (H0:AHeap) (w0:World) (Q:PT AVal→AHeap→Prop) (a:Act) (w:World) :Prop :=
 ∃ t H φ,Q t H∧Sim T B φ0 H0 w0 φ H w∧ActRel φ nt ⟨t,[]⟩ a
theorem St.mono {Q Q':PT AVal→AHeap→Prop} {a:Act} {w:World} (h:St T B nt φ0 H0 w0 Q a w) (k:∀ t H,Q t H→Q' t H) :St T B nt φ0 H0 w0 Q' a w:=by
 obtain ⟨t,H,φ,q,r⟩:=h
 exact ⟨t,H,φ,k _ _ q,r⟩
theorem piece (hsound:∀ n,SoundRec P T B (ev E n)) {c:Code} {c':ACode} (hc:comp T nt false c = c') {ex:AExit} {Q Q':PT AVal→AHeap→Prop} (h:∀ t H,Q t H→W E c' none ⟨t,[]⟩ H (fun e aa H'=>e = ex∧aa.ds = []∧Q' aa.t H')) {a:Act} {w:World} (hs:St T B nt φ0 H0 w0 Q a w) :
  c.wpIn (FR none) 0 P (fun e a' w'=>e = exitOf ex∧St T B nt φ0 H0 w0 Q' a' w') a w:=by
 obtain ⟨t,H,φ,hq,hS,ha⟩:=hs
 obtain ⟨e,⟨t',ds'⟩,H',⟨n,hn⟩,rfl,hds,hq'⟩:=h t H hq
 have hds:ds' = []:=hds
 subst hds
 refine wpIn_mono (hsound n c nt none none ⟨t,[]⟩ H φ a w hS.rel ha trivial (by rw [show (none:Option Nat).isSome = false from rfl,hc]; exact hn n (Nat.le_refl _))) ?_
 rintro e' a' w' ⟨rfl,φ',hS',ha'⟩
 exact ⟨rfl,t',H',φ',hq',hS.trans hS',ha'⟩
theorem ends_of_wp (hT:TOk2 T P) {fn:Func} {c:Code} {f:FuncId} (g1:P.funcs[f]? = some fn) (k1:fn.body = some c) {ars:List (Pos × Option Nat)} (k4:compRes T fn.results.toList = some ars) {vs:Array Value} {φ:Emb} {H:AHeap} {w:World} {R:AVal→AHeap→Prop}
  (hw:c.wpIn (FR none) 0 P (fun e a' w'=>(e = .normal∨e = .ret)∧St T B fn.ntmps φ H w (fun t' H'=>∃ l,resultA t' H' ars = some l∧R (resVal l) H') a' w') { tmps:=vs ++ Array.replicate (fn.ntmps - vs.size) undef,defers:=[] } w) :
  CallsIn Fence.wide 0 P f vs w fun e w'=>∃ v H',R v H'∧Ends T B φ H w v H' e w':=by
 refine callsIn_of_wp_marks g1 k1 trivial (wpIn_mono hw fun e' a' w' ⟨he,t',H',φ',⟨l,hr,hR⟩,hS,hact⟩=>?_)
 obtain ⟨u,h1,h2⟩:=results_run (P:=P) hT.toTOk hS.rel hact.t k4 hr
 have hds:a'.defers = []:=hact.ds
 have:LeavesInM Fence.wide 0 P fn a'.tmps (fun e w'=>∃ v H',R v H'∧Ends T B φ H w v H' e w') a'.defers .returning w':=by
  rw [hds]
  exact ⟨u,h1,_,_,hR,u,φ',rfl,h2,hS⟩
 rcases he with rfl | rfl <;> exact this
theorem Sim.raw {φ:Emb} {H:AHeap} {w:World} (hH:HRel T B φ H w) {p:Pos} {x:Place} (hx:φ p = some x) (hp:PT.get p H.t ≠ none) {ob:Obj} (hb:w.heap[x.c]? = some ob) :Sim T B φ H w φ (H.upd p (.raw ob)) w :=
 Sim.turn hH hx hp (Below.refl _ _) rfl (fun _ _=>rfl) hb
theorem get_upd_raw {H:AHeap} {b p:Pos} {o:AObj} {x y:Obj} (h:PT.get b H.t = some o) (hn:∀ z,o ≠ .raw z) (hp:PT.get p H.t = some (.raw x)) :PT.get b (H.upd p (.raw y)).t = some o:=by
 have:p ≠ b:=fun e=>by
  rw [e,h] at hp
  exact hn _ (Option.some.inj hp)
 simp only [AHeap.upd,PT.get_set_other _ _ _ _ this]
 exact h
theorem trips_mono {φ φ':Emb} (h:φ.le φ') {l:List Trip} (k:∀ x ∈ l,TripOk φ x) :∀ x ∈ l,TripOk φ' x:=fun x hx=>⟨VRel.mono h _ _ (k x hx).1,VRel.mono h _ _ (k x hx).2⟩
theorem dst_lt {nt x:Nat} (h:x < nt) :dstOf nt (some x) = some (some (Pos.ofNat x)):=by
 have:Nat.blt x nt = true:=by rw [Nat.blt_eq]; exact h
 simp only [dstOf,this]
theorem range_mapQ (hT:TOk2 T P) (hE:EnvOk P T B E) (hsound:∀ n,SoundRec P T B (ev E n)) {i0 rn re b0 b1:Nat} {oR o1 o2 oE:Oper} {opsQ:Array Oper} {qs:List Oper} (hopsQ:opsQ.toList = qs ++ [oR]) {opsE:Array Oper} {lE:List Oper} (hopsE:opsE.toList = oE :: lE) {restC:Code} {restA:ACode} (hrest:comp T nt false restC = restA)
  {al0 alE:List AOper} (c0:compOpers T nt opsQ.toList qs = some al0) (cE:compOpers T nt opsE.toList lE = some alE) {tM tR tN tB tE:Nat} {tm kt et:TypeId}
  (hR:oR.op = .range tm (.tmp tM)) (hRd:oR.dst = some tR) (hRg:oR.guard = none) (hRt:P.underlying tm = some (.map kt et)) (h1:o1.op = .next (.tmp tR) false) (h1d:o1.dst = some tN) (h1g:o1.guard = none) (h2:o2.op = .extract (.tmp tN) 0) (h2d:o2.dst = some tB) (h2g:o2.guard = none)
  (hE1:oE.op = .entry (.tmp tR)) (hEd:oE.dst = some tE) (hEg:oE.guard = none) (hlt:tM < nt∧tR < nt∧tN < nt∧tB < nt∧tE < nt) (hne:tN ≠ tR∧tB ≠ tR∧tE ≠ tR) (h31:nt < 2147483648)
  {Q0:PT AVal→AHeap→Prop} {J:Option Pos→Pos→List (AVal × AVal)→PT AVal→AHeap→Prop}
  (hq:∀ t H,Q0 t H→∃ t',qops H al0 t = some t'∧((tget t' (Pos.ofNat tM) = .mnil∧∀ ob,J none H.nx [] (tput t' (some (Pos.ofNat tR)) (.ptr H.nx 0)) (H.new (.raw ob)).2) ∨
   ∃ m es,tget t' (Pos.ofNat tM) = .map m∧entries (PT.get m H.t) = some es∧∀ ob1 ob2,J (some m) H.nx es (tput t' (some (Pos.ofNat tR)) (.ptr H.nx 0)) ((H.upd m (.raw ob1)).new (.raw ob2)).2))
  (hperm:∀ m pr l1 l2 t H,J m pr l1 t H→l1.Perm l2→J m pr l2 t H)
  (hJ:∀ m pr l t H x y,J m pr l t H→PT.get pr H.t = some (.raw x)→J m pr l t (H.upd pr (.raw y)))
  (hbody:∀ m pr k v l t H,J (some m) pr ((k,v) :: l) t H→tget t (Pos.ofNat tR) = .ptr pr 0→(∃ x,PT.get pr H.t = some (.raw x))→(∃ x,PT.get m H.t = some (.raw x)) →
   WO E [] alE (tput (tput (tput t (some (Pos.ofNat tN)) (.tup [.bool true,k,v])) (some (Pos.ofNat tB)) (.bool true)) (some (Pos.ofNat tE)) (.tup [k,v])) H (fun t2 H2=>W E restA none ⟨t2,[]⟩ H2 (fun e aa H3=>e = .normal∧aa.ds = []∧J (some m) pr l aa.t H3∧tget aa.t (Pos.ofNat tR) = .ptr pr 0∧PT.get pr H3.t = PT.get pr H.t∧PT.get m H3.t = PT.get m H.t)))
  {a:Act} {w:World} (hs:St T B nt φ0 H0 w0 Q0 a w) :
  (Code.seq (.region i0 opsQ false) (.block b0 (.loop (.seq (.region rn #[o1,o2] false) (.seq (.cond (.tmp tB) .skip (.exit b0)) (.block b1 (.seq (.region re opsE false) restC))))))).wpIn (FR none) 0 P
   (fun e a' w'=>e = .normal∧St T B nt φ0 H0 w0 (fun t H=>∃ m pr t0,J m pr [] t0 H∧t = tput (tput t0 (some (Pos.ofNat tN)) (.tup [.bool false])) (some (Pos.ofNat tB)) (.bool false)) a' w') a w:=by
 obtain ⟨lM,lR,lN,lB,lE'⟩:=hlt
 obtain ⟨nNR,nBR,nER⟩:=hne
 have bR:tR < 2147483648:=by omega
 have bN:tN < 2147483648:=by omega
 have bB:tB < 2147483648:=by omega
 have bE:tE < 2147483648:=by omega
 obtain ⟨t,H,φ,hq0,hS,hact⟩:=hs
 obtain ⟨t',hqt,hcase⟩:=hq t H hq0
 refine wpIn_seq (wpIn_region_list ?_)
 rw [hopsQ]
 refine qops_ok hT c0 hS.rel hact hqt fun a3 hact3=>?_
 have hvM:=hact3.t.2.2 tM (by omega)
 rcases hcase with ⟨hM,hJn⟩ | ⟨m,es,hM,hes,hJm⟩
 ·
  rw [hM] at hvM
  have hev:a3.eval (.tmp tM) = .map none:=hvM
  have hrun2:(execOp a3.eval oR).run P w = .ok (.value (.pointer (some ⟨w.heap.size,0,none⟩))) (w.alloc (.mapIter none 0 #[] 0)):=by
   simp only [execOp,hR,hev,run_range_nilMap w tm kt et hRt,Sem.run_bind,Result.andThen_ok,Sem.run_pure]
  refine op_step hRg (by rw [hR]; intro c hc; cases hc) hrun2 ?_
  simp only [wpListIn,Exit.then]
  have hS1:=Sim.new hS.rel (.raw (.mapIter none 0 #[] 0)) (.mapIter none 0 #[] 0) 0 (heap_alloc_new _ _)
  have hact4:=(hact3.mono hS1.ext.le).put (o:=oR) (d:=some (Pos.ofNat tR)) (by rw [hRd]; exact dst_lt lR) (v:=.ptr H.nx 0) (u:=.pointer (some ⟨w.heap.size,0,none⟩)) ⟨_,Emb.put_same _ _ _,rfl⟩
  refine wpIn_block (wpIn_loop_rounds 1 ?_)
  rw [roundsIn_succ]
  refine wpIn_seq (wpIn_region_list ?_)
  show wpListIn _ _ _ _ _ [o1,o2] _ _
  generalize a3.put oR.dst (.pointer (some ⟨w.heap.size,0,none⟩)) = a4 at hact4 ⊢
  have e4:a4.eval (.tmp tR) = .pointer (some ⟨w.heap.size,0,none⟩):=by
   have:=hact4.t.2.2 tR (by omega)
   rw [tget_puts _ bR bR,if_pos rfl] at this
   obtain ⟨y,hy,hv⟩:=this
   rw [Emb.put_same] at hy
   cases hy
   exact hv
  have hrun1:(execOp a4.eval o1).run P (w.alloc (.mapIter none 0 #[] 0)) = .ok (.value (.tuple #[.bool false])) (w.alloc (.mapIter none 0 #[] 0)):=by
   simp only [execOp,h1,e4,Sem.run_bind,run_next_nilMap,Result.andThen_ok,Sem.run_pure]
  refine op_step h1g (by rw [h1]; intro c hc; cases hc) hrun1 ?_
  have a5:=hact4.put (o:=o1) (d:=some (Pos.ofNat tN)) (by rw [h1d]; exact dst_lt lN) (v:=.tup [.bool false]) (u:=.tuple #[.bool false]) ⟨_,rfl,_,_,rfl,rfl,rfl⟩
  rw [h1d] at a5 ⊢
  have hev2:(a4.put (some tN) (.tuple #[.bool false])).eval (.tmp tN) = .tuple #[.bool false]:=by
   have:tN < a4.tmps.size:=by rw [hact4.t.1]; exact lN
   simp [Act.eval,Act.put,this]
  have hrun2:(execOp (a4.put (some tN) (.tuple #[.bool false])).eval o2).run P (w.alloc (.mapIter none 0 #[] 0)) = .ok (.value (.bool false)) (w.alloc (.mapIter none 0 #[] 0)):=by
   simp [execOp,h2,hev2,Instr.extract]
  refine op_step h2g (by rw [h2]; intro c hc; cases hc) hrun2 ?_
  have a6:=a5.put (o:=o2) (d:=some (Pos.ofNat tB)) (by rw [h2d]; exact dst_lt lB) (v:=.bool false) (u:=.bool false) rfl
  rw [h2d] at a6 ⊢
  simp only [wpListIn,Exit.then]
  refine wpIn_seq (wpIn_cond_false ?_ (wpIn_exit ?_))
  ·have:tB < a4.tmps.size:=by rw [hact4.t.1]; exact lB
   simp [Act.eval,Act.put,this]
  ·simp only [Exit.then,Exit.inBlock,if_true]
   exact ⟨trivial,_,_,_,⟨none,_,_,hJn _,rfl⟩,hS.trans hS1,a6⟩
 ·
  rw [hM] at hvM
  obtain ⟨x,hx,hvM⟩:=hvM
  obtain ⟨es',clock,k1,⟨⟨l,pl,pk,pv⟩,nd1,nlt,nd2⟩⟩:=entries_ok hS.rel hx hes
  have hrun:=run_range_map (P:=P) w tm kt et x.c es' clock hRt k1
  have hrun2:(execOp a3.eval oR).run P w = .ok (.value (.pointer (some ⟨w.heap.size,0,none⟩))) (w.alloc (.mapIter (some x.c) clock #[] clock)):=by
   have:a3.eval (.tmp tM) = .map (some x.c):=hvM
   simp only [execOp,hR,this,hrun,Sem.run_bind,Result.andThen_ok,Sem.run_pure]
  refine op_step hRg (by rw [hR]; intro c hc; cases hc) hrun2 ?_
  simp only [wpListIn,Exit.then]
  have hmn:PT.get m H.t ≠ none:=fun e=>by rw [e] at hes; cases hes
  have hSm:=Sim.raw hS.rel hx hmn k1
  have hS1:Sim T B φ (H.upd m (.raw (.map es' clock))) w (φ.put H.nx ⟨w.heap.size,0,0⟩) ((H.upd m (.raw (.map es' clock))).new (.raw (.mapIter (some x.c) clock #[] clock))).2 (w.alloc (.mapIter (some x.c) clock #[] clock)) :=
   Sim.new hSm.rel (.raw (.mapIter (some x.c) clock #[] clock)) (.mapIter (some x.c) clock #[] clock) 0 (heap_alloc_new _ _)
  have hact4:=(hact3.mono hS1.ext.le).put (o:=oR) (d:=some (Pos.ofNat tR)) (by rw [hRd]; exact dst_lt lR) (v:=.ptr H.nx 0) (u:=.pointer (some ⟨w.heap.size,0,none⟩)) ⟨_,Emb.put_same _ _ _,rfl⟩
  obtain ⟨ts,ht1,ht2,ht3⟩:=trips_of (LRel.mono hS1.ext.le _ _ pk) (LRel.mono hS1.ext.le _ _ pv)
  have hxlt:x.c < w.heap.size:=(hS.rel.low m x hx).2
  have hits:IterAt (w.alloc (.mapIter (some x.c) clock #[] clock)) w.heap.size x.c clock l #[] clock es' clock:=by
   refine ⟨heap_alloc_new _ _,?_,nlt,Nat.le_refl _,Nat.le_refl _,?_,nd1⟩
   ·rw [heap_alloc_old _ _ hxlt]; exact k1
   ·rw [leftOf_toList]
    have:es'.toList.filter (fun e=>!(#[] :Array Nat).contains e.born) = es'.toList:=List.filter_eq_self.2 fun x _=>by simp
    rw [this]
    exact pl.symm
  have hmnx:m ≠ H.nx:=fun e=>hmn (by rw [e]; exact hS.rel.fresh_get)
  generalize hφ:φ.put H.nx ⟨w.heap.size,0,0⟩ = φ1 at hS1 hact4 ht3
  have hφr:φ1 H.nx = some ⟨w.heap.size,0,0⟩:=by rw [← hφ]; exact Emb.put_same _ _ _
  have hφm:φ1 m = some x:=by rw [← hφ,Emb.put_other _ _ hmnx]; exact hx
  have hbase:B≤w.heap.size:=hS.rel.base
  let S:List Trip→Act→World→Prop:=fun left a w'=>∃ t H' φ' seen c0,J (some m) H.nx (left.map Trip.ab) t H'∧tget t (Pos.ofNat tR) = .ptr H.nx 0∧PT.get H.nx H'.t = some (.raw (.mapIter (some x.c) clock seen c0))∧PT.get m H'.t = some (.raw (.map es' clock)) ∧
   φ1.le φ'∧Sim T B φ0 H0 w0 φ' H' w'∧ActRel φ' nt ⟨t,[]⟩ a∧(∀ y ∈ left,TripOk φ' y)∧IterAt w' w.heap.size x.c clock (left.map Trip.ent) seen c0 es' clock
  have hS0:S ts (a3.put oR.dst (.pointer (some ⟨w.heap.size,0,none⟩))) (w.alloc (.mapIter (some x.c) clock #[] clock)):=by
   refine ⟨tput t' (some (Pos.ofNat tR)) (.ptr H.nx 0),((H.upd m (.raw (.map es' clock))).new (.raw (.mapIter (some x.c) clock #[] clock))).2,φ1,#[],clock,by rw [ht2]; exact hJm _ _,by rw [tget_puts _ bR bR,if_pos rfl],AHeap.get_new (H.upd m (.raw (.map es' clock))) _,?_,Emb.le_refl _,(hS.trans hSm).trans hS1,hact4,ht3,by rw [ht1]; exact hits⟩
   show PT.get m (PT.set H.nx _ (H.upd m _).t) = _
   rw [PT.get_set_other _ _ _ _ (fun e=>hmnx e.symm)]
   exact get_upd
  have hsz:∀ left a w',S left a w'→a.tmps.size = nt:=fun left a w' ⟨_,_,_,_,_,_,_,_,_,_,_,hA,_⟩=>hA.t.1
  refine maploop (S:=S) (ent:=Trip.ent) (rb:=w.heap.size) (bm:=x.c) (since:=clock) h1 h1d h1g h2 h2d h2g ?_ ?_ ?_ hS0
  ·rintro left a w' ⟨t,H',φ',seen,c0,s1,s2,s3,s4,s5,s6,s7,s8,s9⟩
   have hv:=s7.t.2.2 tR (by omega)
   rw [s2] at hv
   obtain ⟨y,hy,hv⟩:=hv
   rw [s5 _ _ hφr] at hy
   cases hy
   exact ⟨hv,by rw [s7.t.1]; exact lN,by rw [s7.t.1]; exact lB,_,_,_,_,s9⟩
  ·rintro l1 x1 l2 a w' w1 seen' c0' es2 clk ⟨t,H',φ',seen,c0,s1,s2,s3,s4,s5,s6,s7,s8,s9⟩ hI hw1
   have hh:w1.heap = w'.heap:=by rcases hw1 with rfl | rfl <;> rfl
   obtain ⟨rfl,rfl⟩ :seen' = seen∧c0' = c0:=by
    have h1:=hI.it
    rw [s9.it] at h1
    cases h1
    exact ⟨rfl,rfl⟩
   obtain ⟨rfl,rfl⟩ :es2 = es'∧clk = clock:=by
    have h1:=hI.map
    rw [s9.map] at h1
    cases h1
    exact ⟨rfl,rfl⟩
   rw [List.map_append,List.map_cons] at hI s1
   have hI2:=hI.step hw1
   have hH1:HRel T B φ' H' w1:=s6.rel.drawn hh
   have hB1:Below B w' w1:=by
    rcases hw1 with rfl | rfl
    ·exact Below.refl _ _
    ·exact ⟨rfl,rfl,rfl,Nat.le_refl _,fun _ _=>rfl⟩
   have hpn:PT.get H.nx H'.t ≠ none:=by rw [s3]; simp
   have hrlt:w.heap.size < w1.heap.size:=by
    have:=(s6.rel.low _ _ (s5 _ _ hφr)).2
    rw [hh]; exact this
   have hS2:Sim T B φ' H' w1 φ' (H'.upd H.nx (.raw (.mapIter (some x.c) clk (seen'.push (Trip.ent x1).born) clk))) (setBlock w1 w.heap.size (.mapIter (some x.c) clk (seen'.push (Trip.ent x1).born) clk)):=by
    have hother:∀ c,c ≠ w.heap.size→(setBlock w1 w.heap.size (.mapIter (some x.c) clk (seen'.push (Trip.ent x1).born) clk)).heap[c]? = w1.heap[c]?:=fun c hc=>by
     show (w1.heap.setIfInBounds _ _)[c]? = _
     rw [Array.getElem?_setIfInBounds_ne (fun e=>hc e.symm)]
    refine Sim.turn hH1 (s5 _ _ hφr) hpn (Below.of_one (c:=w.heap.size) hbase rfl rfl rfl (by simp [setBlock]) hother) (by simp [setBlock]) hother ?_
    show (w1.heap.setIfInBounds _ _)[w.heap.size]? = _
    simp [hrlt]
   have hmem:(Trip.ent x1) ∈ es2.toList:=hI.mem
   have hent:=run_entry_at (P:=P) (setBlock w1 w.heap.size (.mapIter (some x.c) clk (seen'.push (Trip.ent x1).born) clk)) w.heap.size x.c clk seen' es2 clk (Trip.ent x1) hI2.it hI2.map hmem hI2.nodup
   have hS3:Sim T B φ0 H0 w0 φ' (H'.upd H.nx (.raw (.mapIter (some x.c) clk (seen'.push (Trip.ent x1).born) clk))) (setBlock w1 w.heap.size (.mapIter (some x.c) clk (seen'.push (Trip.ent x1).born) clk)) :=
    ⟨s6.ext.trans hS2.ext,hS2.rel,(s6.below.trans hB1).trans hS2.below⟩
   have hm2:PT.get m (H'.upd H.nx (.raw (.mapIter (some x.c) clk (seen'.push (Trip.ent x1).born) clk))).t = some (.raw (.map es2 clk)):=by
    simp only [AHeap.upd,PT.get_set_other _ _ _ _ (fun e=>hmnx e.symm)]
    exact s4
   have hJ2:=hJ _ _ _ _ _ _ (Obj.mapIter (some x.c) clk (seen'.push (Trip.ent x1).born) clk) (hperm _ _ _ _ _ _ s1 List.perm_middle) s3
   generalize hwn:setBlock w1 w.heap.size (.mapIter (some x.c) clk (seen'.push (Trip.ent x1).born) clk) = wn at hI2 hS3 hent ⊢
   have hr2:PT.get H.nx (H'.upd H.nx (.raw (.mapIter (some x.c) clk (seen'.push (Trip.ent x1).born) clk))).t = some (.raw (.mapIter (some x.c) clk (seen'.push (Trip.ent x1).born) clk)):=get_upd
   generalize H'.upd H.nx (.raw (.mapIter (some x.c) clk (seen'.push (Trip.ent x1).born) clk)) = H2 at hS3 hm2 hJ2 hr2
   obtain ⟨o1k,o1v⟩:=s8 x1 (by simp)
   have a1:=s7.put (o:=o1) (d:=some (Pos.ofNat tN)) (by rw [h1d]; exact dst_lt lN) (v:=.tup [.bool true,x1.1,x1.2.1]) (u:=.tuple #[.bool true,(Trip.ent x1).key,(Trip.ent x1).val]) ⟨_,rfl,_,_,rfl,rfl,_,_,rfl,o1k,_,_,rfl,o1v,rfl⟩
   have a2:=a1.put (o:=o2) (d:=some (Pos.ofNat tB)) (by rw [h2d]; exact dst_lt lB) (v:=.bool true) (u:=.bool true) rfl
   rw [h1d,h2d] at a2
   generalize (a.put (some tN) (.tuple #[.bool true,(Trip.ent x1).key,(Trip.ent x1).val])).put (some tB) (.bool true) = ar at a2 ⊢
   have hvR:=a2.t.2.2 tR (by omega)
   simp only [tget_puts _ bB bR,tget_puts _ bN bR,nNR,nBR,if_false,s2] at hvR
   obtain ⟨y,hy,hvR⟩:=hvR
   rw [s5 _ _ hφr] at hy
   cases hy
   have hrunE:(execOp ar.eval oE).run P wn = .ok (.value (.tuple #[(Trip.ent x1).key,(Trip.ent x1).val])) wn:=by
    have:ar.eval (.tmp tR) = .pointer (some ⟨w.heap.size,0,none⟩):=by rw [show ar.eval (.tmp tR) = ar.tmps.getD tR undef from rfl]; simpa using hvR
    simp only [execOp,hE1,this,hent,Sem.run_bind,Result.andThen_ok,Sem.run_pure]
   have a3:=a2.put (o:=oE) (d:=some (Pos.ofNat tE)) (by rw [hEd]; exact dst_lt lE') (v:=.tup [x1.1,x1.2.1]) (u:=.tuple #[(Trip.ent x1).key,(Trip.ent x1).val]) ⟨_,rfl,_,_,rfl,o1k,_,_,rfl,o1v,rfl⟩
   obtain ⟨t2,H3,⟨n0,hops⟩,e4,⟨t4,ds4⟩,H4,⟨n1,hev⟩,rfl,hds,j1,j2,j3,j4⟩:=hbody m H.nx x1.1 x1.2.1 _ t H2 hJ2 s2 ⟨_,hr2⟩ ⟨_,hm2⟩
   have hds:ds4 = []:=hds
   subst hds
   have hreg:(Code.region re opsE false).wpIn (FR none) 0 P (Post T B φ' H2 wn nt .normal ⟨t2,[]⟩ H3) ar wn:=by
    refine wpIn_region_list ?_
    rw [hopsE]
    refine op_step hEg (by rw [hE1]; intro c hc; cases hc) hrunE ?_
    exact ops_ok hT hE (hsound n0) cE (fun h=>by cases h) (Sim.refl hS3.rel) a3 (hops n0 (Nat.le_refl _))
   refine wpIn_seq (wpIn_mono hreg ?_)
   rintro e' a' wx ⟨rfl,φ2,hSx,hactx⟩
   simp only [exitOf,Exit.then]
   refine wpIn_mono (hsound n1 restC nt none none ⟨t2,[]⟩ H3 φ2 a' wx hSx.rel hactx trivial (by rw [show (none:Option Nat).isSome = false from rfl,hrest]; exact hev n1 (Nat.le_refl _))) ?_
   rintro e' a' wy ⟨rfl,φ3,hSy,hacty⟩
   have hle:φ'.le φ3:=Emb.le_trans hSx.ext.le hSy.ext.le
   have hfin:=(hS3.trans hSx).trans hSy
   refine ⟨rfl,t4,H4,φ3,_,_,by rw [List.map_append]; exact j1,j2,by rw [j3]; exact hr2,by rw [j4]; exact hm2,Emb.le_trans s5 hle,hfin,hacty,trips_mono hle fun y hy=>s8 y (by simp at hy ⊢; rcases hy with hy | hy <;> simp [hy]),?_⟩
   have hb1:wy.heap[w.heap.size]? = some (.mapIter (some x.c) clk (seen'.push (Trip.ent x1).born) clk):=hfin.rel.obj _ (.raw _) _ (by rw [j3]; exact hr2) (hle _ _ (s5 _ _ hφr))
   have hb2:wy.heap[x.c]? = some (.map es2 clk):=hfin.rel.obj _ (.raw _) _ (by rw [j4]; exact hm2) (hle _ _ (s5 _ _ hφm))
   rw [List.map_append]
   exact ⟨hb1,hb2,hI2.old,hI2.sc,hI2.scl,hI2.left,hI2.nodup⟩
  ·rintro a w' ⟨t,H',φ',seen,c0,s1,s2,s3,s4,s5,s6,s7,s8,s9⟩
   have a1:=s7.put (o:=o1) (d:=some (Pos.ofNat tN)) (by rw [h1d]; exact dst_lt lN) (v:=.tup [.bool false]) (u:=.tuple #[.bool false]) ⟨_,rfl,_,_,rfl,rfl,rfl⟩
   have a2:=a1.put (o:=o2) (d:=some (Pos.ofNat tB)) (by rw [h2d]; exact dst_lt lB) (v:=.bool false) (u:=.bool false) rfl
   rw [h1d,h2d] at a2
   exact ⟨rfl,_,_,_,⟨_,_,_,s1,rfl⟩,s6,a2⟩
theorem range_map (hT:TOk2 T P) (hE:EnvOk P T B E) (hsound:∀ n,SoundRec P T B (ev E n)) {i0 rn re b0 b1:Nat} {q0 oR o1 o2 oE:Oper} {opsE:Array Oper} {lE:List Oper} (hopsE:opsE.toList = oE :: lE) {restC:Code} {restA:ACode} (hrest:comp T nt false restC = restA)
  {al0 alE:List AOper} (c0:compOpers T nt [q0,oR] [q0] = some al0) (cE:compOpers T nt opsE.toList lE = some alE) {tM tR tN tB tE:Nat} {tm kt et:TypeId}
  (hR:oR.op = .range tm (.tmp tM)) (hRd:oR.dst = some tR) (hRg:oR.guard = none) (hRt:P.underlying tm = some (.map kt et)) (h1:o1.op = .next (.tmp tR) false) (h1d:o1.dst = some tN) (h1g:o1.guard = none) (h2:o2.op = .extract (.tmp tN) 0) (h2d:o2.dst = some tB) (h2g:o2.guard = none)
  (hE1:oE.op = .entry (.tmp tR)) (hEd:oE.dst = some tE) (hEg:oE.guard = none) (hlt:tM < nt∧tR < nt∧tN < nt∧tB < nt∧tE < nt) (hne:tN ≠ tR∧tB ≠ tR∧tE ≠ tR) (h31:nt < 2147483648)
  {Q0:PT AVal→AHeap→Prop} {J:Option Pos→Pos→List (AVal × AVal)→PT AVal→AHeap→Prop}
  (hq:∀ t H,Q0 t H→∃ t',qops H al0 t = some t'∧((tget t' (Pos.ofNat tM) = .mnil∧∀ ob,J none H.nx [] (tput t' (some (Pos.ofNat tR)) (.ptr H.nx 0)) (H.new (.raw ob)).2) ∨
   ∃ m es,tget t' (Pos.ofNat tM) = .map m∧entries (PT.get m H.t) = some es∧∀ ob1 ob2,J (some m) H.nx es (tput t' (some (Pos.ofNat tR)) (.ptr H.nx 0)) ((H.upd m (.raw ob1)).new (.raw ob2)).2))
  (hperm:∀ m pr l1 l2 t H,J m pr l1 t H→l1.Perm l2→J m pr l2 t H)
  (hJ:∀ m pr l t H x y,J m pr l t H→PT.get pr H.t = some (.raw x)→J m pr l t (H.upd pr (.raw y)))
  (hbody:∀ m pr k v l t H,J (some m) pr ((k,v) :: l) t H→tget t (Pos.ofNat tR) = .ptr pr 0→(∃ x,PT.get pr H.t = some (.raw x))→(∃ x,PT.get m H.t = some (.raw x)) →
   WO E [] alE (tput (tput (tput t (some (Pos.ofNat tN)) (.tup [.bool true,k,v])) (some (Pos.ofNat tB)) (.bool true)) (some (Pos.ofNat tE)) (.tup [k,v])) H (fun t2 H2=>W E restA none ⟨t2,[]⟩ H2 (fun e aa H3=>e = .normal∧aa.ds = []∧J (some m) pr l aa.t H3∧tget aa.t (Pos.ofNat tR) = .ptr pr 0∧PT.get pr H3.t = PT.get pr H.t∧PT.get m H3.t = PT.get m H.t)))
  {a:Act} {w:World} (hs:St T B nt φ0 H0 w0 Q0 a w) :
  (Code.seq (.region i0 #[q0,oR] false) (.block b0 (.loop (.seq (.region rn #[o1,o2] false) (.seq (.cond (.tmp tB) .skip (.exit b0)) (.block b1 (.seq (.region re opsE false) restC))))))).wpIn (FR none) 0 P
   (fun e a' w'=>e = .normal∧St T B nt φ0 H0 w0 (fun t H=>∃ m pr t0,J m pr [] t0 H∧t = tput (tput t0 (some (Pos.ofNat tN)) (.tup [.bool false])) (some (Pos.ofNat tB)) (.bool false)) a' w') a w :=
 range_mapQ hT hE hsound (opsQ:=#[q0,oR]) (qs:=[q0]) rfl hopsE hrest c0 cE hR hRd hRg hRt h1 h1d h1g h2 h2d h2g hE1 hEd hEg hlt hne h31 hq hperm hJ hbody hs
end
end Go.Am
end

section
namespace Go.Am
open Go Go.RowKit
def RoObj (o o0:AObj) :Prop:=(∃ l op ro,o = .cells l op ro∧o0 = .cells l false true)∨(∃ es,entries (some o) = some es∧o0 = .rmap es)
section
variable {P:Program} {T:Tys} {B:Nat} {φ:Emb} {H:AHeap} {w:World}
theorem HRel.part2 {t0:PT AObj} (h:HRel T B φ H w) (hsub:∀ p o0,PT.get p t0 = some o0→∃ o,PT.get p H.t = some o∧RoObj o o0) :HRel T w.heap.size φ ⟨t0,H.nx⟩ w:=by
 have hn:∀ p,PT.get p t0 ≠ none→PT.get p H.t ≠ none:=by
  intro p hp
  cases ho:PT.get p t0 with
  | none=>exact absurd ho hp
  | some o =>
   obtain ⟨o',h1,_⟩:=hsub p o ho
   rw [h1]; simp
 refine ⟨fun p o0 x hp hx=>?_,fun p q x y hpq hp hq=>h.inj p q x y hpq (hn p hp) (hn q hq),h.low,fun p hp=>h.dom p (hn p hp),Nat.le_refl _,h.glob⟩
 obtain ⟨o,h1,h2⟩:=hsub p o0 hp
 rcases h2 with ⟨l,op,ro,rfl,rfl⟩ | ⟨es,he,rfl⟩
 ·obtain ⟨arr,e,lo,hi,g1,g2,g3,g4,g5,g6,g7⟩:=h.obj p _ x h1 hx
  exact ⟨arr,e,lo,hi,g1,g2,g3,g4,.inr (.inr rfl),fun _ h=>(by cases h),fun h=>(by cases h)⟩
 ·exact entries_ok h hx (by rw [h1]; exact he)
theorem flat_cells {φ':Emb} {w':World} {B' B'':Nat} {l:List AVal} {x:Place} (h:ORel T φ B' w' (.cells l false false) x) (hf:l.all flatV = true) (hB:B''≤B') :ORel T φ' B'' w' (.cells l false false) x:=by
 obtain ⟨arr,e,lo,hi,g1,g2,g3,g4,g5,g6,g7⟩:=h
 refine ⟨arr,e,lo,hi,g1,g2,g3,fun i a hi=>?_,g5,g6,fun h=>Nat.le_trans hB (g7 h)⟩
 obtain ⟨v,h1,h2⟩:=g4 i a hi
 exact ⟨v,h1,flat_rel (List.all_eq_true.1 hf a (List.mem_of_getElem? hi)) h2⟩
theorem returns_part (hH:HRel T B φ H w) {t0:PT AObj} {f:FuncId} {vs:Array Value} {n c:Nat} {cells:List AVal} (hf:cells.all flatV = true) (henter:(callFunc f vs).run P w = .ok (.enter f vs) w)
  (h:CallsIn Fence.wide 0 P f vs w fun e w'=>∃ v H',(∃ pb,v = .sl pb 0 n c 0∧PT.get pb H'.t = some (.cells cells false false))∧Ends T w.heap.size φ ⟨t0,H.nx⟩ w v H' e w') :
  Returns P T B φ H w f vs (.sl H.nx 0 n c 0) (H.new (.cells cells false false)).2:=by
 refine ⟨henter,CallsIn.mono h ?_⟩
 rintro e w' ⟨v,H',⟨pb,rfl,hpb⟩,u,φ',rfl,hu,hS⟩
 obtain ⟨x,a,cap',hx,rfl,h1,h2,h3⟩:=hu
 have ho:=hS.rel.obj pb _ x hpb hx
 obtain ⟨arr,e,lo,hi,g1,g2,g3,g4,g5,g6,g7⟩:=id ho
 obtain ⟨_,hs0⟩:=g6 rfl rfl
 have hxe:(⟨x.c,0,x.k⟩ :Place) = x:=by
  cases x
  simp only at hs0
  subst hs0
  rfl
 have hlt:x.c < w'.heap.size:=(hS.rel.low pb x hx).2
 refine ⟨_,φ.put H.nx ⟨x.c,0,x.k⟩,rfl,?_,Sim.come hH hS.below (.cells cells false false) (k:=x.k) (g7 rfl) hlt ?_⟩
 ·refine ⟨⟨x.c,0,x.k⟩,a,cap',Emb.put_same _ _ _,rfl,h1,h2,?_⟩
  rw [hxe]
  exact h3
 ·rw [hxe]
  exact flat_cells ho hf hH.base
end
end Go.Am
end
