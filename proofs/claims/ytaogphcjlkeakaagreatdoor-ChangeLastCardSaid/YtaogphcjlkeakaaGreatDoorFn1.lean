/- Part of the proof: AmC1, AmC2, AmC8, AmM2, AmM3, AmM6. -/
import Derived.Test.YtaogphcjlkeakaaGreatDoorNet2
import Derived.Test.YtaogphcjlkeakaaGreatDoorGr1
set_option linter.unusedSimpArgs false
set_option linter.unusedVariables false
section
namespace Go.Am
open Go Go.RowKit
structure CodeOkC (E:Env) :Prop where
 s:∀ p,(Pos.beq p (Pos.ofNat 4) || (Pos.beq p (Pos.ofNat 7) || (Pos.beq p (Pos.ofNat 32) || (Pos.beq p (Pos.ofNat 11) || Pos.beq p (Pos.ofNat 36))))) = false→PT.get p E.sums = none
 s7:PT.get (Pos.ofNat 7) E.sums = some sNet
 s28:PT.get (Pos.ofNat 32) E.sums = some sMerge
 f8:PT.get (Pos.ofNat 8) E.fns = some g8
 f6:PT.get (Pos.ofNat 6) E.fns = some g6
 f10:PT.get (Pos.ofNat 10) E.fns = some g10
 f33:PT.get (Pos.ofNat 33) E.fns = some g33
 f81:PT.get (Pos.ofNat 81) E.fns = some g81
 f3:PT.get (Pos.ofNat 3) E.fns = some g3
 f5:PT.get (Pos.ofNat 5) E.fns = some g5
 f12:PT.get (Pos.ofNat 12) E.fns = some g12
 f13:PT.get (Pos.ofNat 13) E.fns = some g13
 f14:PT.get (Pos.ofNat 14) E.fns = some g14
 f23:PT.get (Pos.ofNat 23) E.fns = some g23
 f24:PT.get (Pos.ofNat 24) E.fns = some g24
 f25:PT.get (Pos.ofNat 25) E.fns = some g25
 f26:PT.get (Pos.ofNat 26) E.fns = some g26
 f9:PT.get (Pos.ofNat 9) E.fns = some g9
 f35:PT.get (Pos.ofNat 35) E.fns = some g35
 f37:PT.get (Pos.ofNat 37) E.fns = some g37
 f38:PT.get (Pos.ofNat 38) E.fns = some g38
 f39:PT.get (Pos.ofNat 39) E.fns = some g39
 f40:PT.get (Pos.ofNat 40) E.fns = some g40
 f74:PT.get (Pos.ofNat 74) E.fns = some g74
 f138:PT.get (Pos.ofNat 138) E.fns = some g138
 f196:PT.get (Pos.ofNat 196) E.fns = some g196
 f273:PT.get (Pos.ofNat 273) E.fns = some g273
 f34:PT.get (Pos.ofNat 34) E.fns = some g34
 f265:PT.get (Pos.ofNat 265) E.fns = some g265
section
variable {E:Env}
theorem trip_src {H:AHeap} {t:Trp} {op ro:Bool} :srcCells (H.new (.cells (cell3 t) op ro)).2 3 (.sl H.nx 0 1 1 0) = some (1,cell3 t):=by
 have:hloadN (H.new (.cells (cell3 t) op ro)).2 H.nx 0 (Nat.mul 1 3) = some (cell3 t):=by
  unfold hloadN
  rw [get_new]
  rfl
 unfold srcCells
 simp only [this]
theorem changes_loop {N:Nat} {H0:AHeap} {x:AVal} {ts:List Trp} (hx:TReads N H0 x ts) (hl:ts.length≤1073741824) {b:Pos} (hNb:N≤b.toNat) {ro:Option Pos} :
  ∀ (n:Nat) (t:PT AVal) (H:AHeap),(∃ i rest,i + n = ts.length∧tget t (Pos.ofNat 0) = x∧tget t (Pos.ofNat 4) = .int .i64 (.ofNat i)∧tget t (Pos.ofNat 3) = .sl b 0 (ts.take i).length ts.length 0 ∧
   PT.get b H.t = some (.cells (tripVals (ts.take i) ++ rest) false false)∧rest.length = 3 * n∧b.toNat < H.nx.toNat∧Keep N H0 H) →
  W E (.loop g6l6) ro ⟨t,[]⟩ H (fun e a H'=>e = .exit 0∧a.ds = []∧tget a.t (Pos.ofNat 3) = .sl b 0 ts.length ts.length 0∧PT.get b H'.t = some (.cells (tripVals ts) false false)∧b.toNat < H'.nx.toNat∧Keep N H0 H'):=by
 refine W.loop_inv (Q:=fun e a H'=>e = .exit 0∧a.ds = []∧tget a.t (Pos.ofNat 3) = .sl b 0 ts.length ts.length 0∧PT.get b H'.t = some (.cells (tripVals ts) false false)∧b.toNat < H'.nx.toNat∧Keep N H0 H') _ ?_
 rintro n t H ⟨i,rest,hi,h0,h4,h3,hb,hr,hbl,hk⟩
 refine W.seq (W.seq (W.region ?_))
 simp (maxDischargeDepth:=9) only [auW,auC,auT,lget,BEq.rfl,beq_self_eq_true,decide_true,decide_false,reduceCtorEq,Nat.reduceLT,Nat.reduceEqDiff,↓reduceIte,g6r3,h0,h4,(hx.keep hk (Nat.le_refl _)).fLen]
 refine W.cond_if (p:=i < ts.length) (by simp [AOpnd.ev,tget_puts]) (fun hlt=>W.skip ?_) (fun hge=>W.exit ?_)
 rotate_left
 ·have hr0:rest = []:=List.length_eq_zero_iff.1 (by omega)
  subst hr0
  rw [List.take_of_length_le (by omega)] at h3 hb
  rw [List.append_nil] at hb
  refine ⟨by trivial,by trivial,?_,hb,hbl,hk⟩
  simp only [tget_puts,Nat.reduceLT,Nat.reduceEqDiff,↓reduceIte,h3]
 simp only [andThen]
 obtain ⟨bx,ox,e1,e2,_⟩:=(hx.keep hk (Nat.le_refl _)).fIdx hlt
 refine W.seq (W.block (W.region ?_))
 simp (maxDischargeDepth:=9) only [auW,auC,auT,lget,BEq.rfl,beq_self_eq_true,decide_true,decide_false,reduceCtorEq,Nat.reduceLT,Nat.reduceEqDiff,↓reduceIte,g6r4,h0,h3,h4,e1,fLoadN,e2]
 refine wo_buildSlice (vs:=cell3 ts[i]) (by simp [fillA,AOpnd.ev,tget_puts,vcellsO,lput,lover]) ?_
 have hbne:b ≠ H.nx:=fun e=>by rw [e] at hbl; omega
 have hb2:PT.get b (H.new (.cells (cell3 ts[i]) false false)).2.t = some (.cells (tripVals (ts.take i) ++ rest) false false):=by
  rw [get_new_other hbne]; exact hb
 refine wo_appendE (append_troom (cap:=ts.length) (by':=24) hb2 (by rw [List.length_take]; omega) (by omega) trip_src) (by simp only [auT,Nat.reduceLT,Nat.reduceEqDiff,↓reduceIte,h3]) (by simp only [auT,Nat.reduceLT,Nat.reduceEqDiff,↓reduceIte]) ?_
 simp (maxDischargeDepth:=9) only [auW,auC,auT,lget,BEq.rfl,beq_self_eq_true,decide_true,decide_false,reduceCtorEq,Nat.reduceLT,Nat.reduceEqDiff,↓reduceIte]
 simp only [andThen,inBlock]
 refine W.region ?_
 simp (maxDischargeDepth:=9) only [auW,auC,auT,lget,BEq.rfl,beq_self_eq_true,decide_true,decide_false,reduceCtorEq,Nat.reduceLT,Nat.reduceEqDiff,↓reduceIte,g6r5,h4,b_add (show i + 1≤9223372036854775807 by omega)]
 have htk:ts.take (i + 1) = ts.take i ++ [ts[i]]:=by rw [List.take_succ_eq_append_getElem hlt]
 refine ⟨by trivial,n - 1,by omega,i + 1,rest.drop 3,by omega,?_,?_,?_,by rw [htk]; exact get_upd,?_,?_,?_⟩
 ·simp only [tget_puts,Nat.reduceLT,Nat.reduceEqDiff,↓reduceIte,h0]
 ·simp only [tget_puts,Nat.reduceLT,Nat.reduceEqDiff,↓reduceIte]
 ·simp only [tget_puts,Nat.reduceLT,Nat.reduceEqDiff,↓reduceIte]
  simp
  try omega
 ·simp only [List.length_drop]; omega
 ·show b.toNat < H.nx.succ.toNat
  rw [Pos.toNat_succ]; omega
 ·exact hk.trans ((keep_new.mono (by omega)).trans (keep_upd hNb))
theorem changes_ok (C:CodeOkC E) {N:Nat} {H:AHeap} {x:AVal} {ts:List Trp} (hx:TReads N H x ts) (hN:N≤H.nx.toNat) (hl:ts.length≤1000000) :
  ∃ v H',CallS E 6 [x] H v H'∧(∃ b,v = .sl b 0 ts.length ts.length 0∧PT.get b H'.t = some (.cells (tripVals ts) false false)∧H.nx.toNat≤b.toNat∧b.toNat < H'.nx.toNat)∧Keep H.nx.toNat H H':=by
 refine CallS.by (R:=fun v H'=>(∃ b,v = .sl b 0 ts.length ts.length 0∧PT.get b H'.t = some (.cells (tripVals ts) false false)∧H.nx.toNat≤b.toNat∧b.toNat < H'.nx.toNat)∧Keep H.nx.toNat H H') (t0:=tput .l (some (Pos.ofNat 0)) x) (C.s _ rfl) rfl C.f6 rfl ?_
 refine W.seq (W.region ?_)
 simp (maxDischargeDepth:=9) only [auW,auC,auT,lget,BEq.rfl,beq_self_eq_true,decide_true,decide_false,reduceCtorEq,Nat.reduceLT,Nat.reduceEqDiff,↓reduceIte,g6r0]
 refine W.seq (W.region ?_)
 simp (maxDischargeDepth:=9) only [auW,auC,auT,lget,BEq.rfl,beq_self_eq_true,decide_true,decide_false,reduceCtorEq,Nat.reduceLT,Nat.reduceEqDiff,↓reduceIte,g6r1,hx.fLen]
 refine wo_mkSlice (n:=0) (c:=ts.length) (by simp only [auT,Nat.reduceLT,Nat.reduceEqDiff,↓reduceIte]; rfl) (by simp only [auT,Nat.reduceLT,Nat.reduceEqDiff,↓reduceIte]; rfl) (by omega) (by omega) (by omega) ?_
 simp (maxDischargeDepth:=9) only [auW,auC,auT,lget,BEq.rfl,beq_self_eq_true,decide_true,decide_false,reduceCtorEq,Nat.reduceLT,Nat.reduceEqDiff,↓reduceIte]
 refine W.seq (W.seq (W.region ?_))
 simp (maxDischargeDepth:=9) only [auW,auC,auT,lget,BEq.rfl,beq_self_eq_true,decide_true,decide_false,reduceCtorEq,Nat.reduceLT,Nat.reduceEqDiff,↓reduceIte,g6r2]
 refine W.block (W.mono (changes_loop (N:=H.nx.toNat) (b:=H.nx) (hx.mono hN) (by omega) (Nat.le_refl _) ts.length _ _ ⟨0,repl [.int .i64 (.ofNat 0),.int .i64 (.ofNat 0),.bool false] ts.length,by omega,?_,?_,?_,?_,?_,?_,keep_new⟩) ?_)
 ·simp only [tget_puts,Nat.reduceLT,Nat.reduceEqDiff,↓reduceIte]
 ·simp only [tget_puts,Nat.reduceLT,Nat.reduceEqDiff,↓reduceIte]
 ·simp only [tget_puts,Nat.reduceLT,Nat.reduceEqDiff,↓reduceIte]
  rfl
 ·exact get_new
 ·rw [repl3_length]; omega
 ·rw [nx_new]; omega
 rintro e ⟨t',ds⟩ H' ⟨rfl,hd,h3,hb,hbl,hk⟩
 have hd:ds = []:=hd
 subst hd
 have h3:tget t' (Pos.ofNat 3) = .sl H.nx 0 ts.length ts.length 0:=h3
 simp only [andThen,inBlock,beq_t]
 refine W.seq (W.region ?_)
 simp (maxDischargeDepth:=9) only [auW,auC,auT,lget,BEq.rfl,beq_self_eq_true,decide_true,decide_false,reduceCtorEq,Nat.reduceLT,Nat.reduceEqDiff,↓reduceIte,g6r7,h3]
 refine W.ret ⟨.inr rfl,rfl,.sl H.nx 0 ts.length ts.length 0,?_,⟨H.nx,rfl,hb,Nat.le_refl _,hbl⟩,hk⟩
 simp [resultA,g6,tget_puts]
end
end Go.Am
end

section
namespace Go.Am
open Go Go.RowKit
theorem cell_at {H:AHeap} {b:Pos} {o:Nat} {t:Trp} (h:hloadN H b o 3 = some (cell3 t)) :hload H b (o + 0) = some (.int .i64 t.1)∧hload H b (o + 1) = some (.int .i64 t.2.1)∧hload H b (o + 2) = some (.bool t.2.2):=by
 have g:∀ i v,(cell3 t)[i]? = some v→hload H b (o + i) = some v:=by
  intro i v hv
  have:=hloadN_get h (i:=i) hv
  rw [off1] at this
  exact this
 exact ⟨g 0 _ rfl,g 1 _ rfl,g 2 _ rfl⟩
theorem eqb (H:AHeap) (a b:Bool) :eqV H (.one .bool) (.bool a) (.bool b) = some (a == b):=rfl
section
variable {E:Env}
theorem same_loop {N:Nat} {H:AHeap} {x y:AVal} {ts:List Trp} (hx:TReads N H x ts) (hy:TReads N H y ts) (hl:ts.length≤1073741824) {ro:Option Pos} :
  ∀ (n:Nat) (t:PT AVal) (H1:AHeap),(∃ i,i + n = ts.length∧tget t (Pos.ofNat 0) = x∧tget t (Pos.ofNat 1) = y∧tget t (Pos.ofNat 5) = .int .i64 (.ofNat i)∧H1 = H) →
  W E (.loop g8l8) ro ⟨t,[]⟩ H1 (fun e a H'=>e = .exit 0∧a.ds = []∧H' = H):=by
 refine W.loop_inv (Q:=fun e a H'=>e = .exit 0∧a.ds = []∧H' = H) _ ?_
 rintro n t H1 ⟨i,hi,h0,h1,h5,rfl⟩
 refine W.seq (W.seq (W.region ?_))
 simp (maxDischargeDepth:=9) only [auW,auC,auT,lget,BEq.rfl,beq_self_eq_true,decide_true,decide_false,reduceCtorEq,Nat.reduceLT,Nat.reduceEqDiff,↓reduceIte,g8r4,h0,h5,hx.fLen]
 refine W.cond_if (p:=i < ts.length) (by simp [AOpnd.ev,tget_puts]) (fun hlt=>W.skip ?_) (fun hge=>W.exit ?_)
 rotate_left
 ·exact ⟨by trivial,by trivial,by trivial⟩
 simp only [andThen]
 obtain ⟨bx,ox,e1,e2,_⟩:=hx.fIdx hlt
 obtain ⟨b',o',f1,f2,_⟩:=hy.fIdx hlt
 obtain ⟨l0,l1,l2⟩:=cell_at e2
 obtain ⟨m0,m1,m2⟩:=cell_at f2
 refine W.seq (W.block (W.seq (W.draw ?_)))
 simp (maxDischargeDepth:=9) only [auD,auC,auT,lget,BEq.rfl,beq_self_eq_true,decide_true,decide_false,reduceCtorEq,Nat.reduceLT,Nat.reduceEqDiff,↓reduceIte,g8d5,h0,h1,h5,e1,f1,l0,l1,l2,m0,m1,m2,eqb,eq_self]
 simp only [andThen]
 refine W.cond_false (by simp [AOpnd.ev,tget_puts]) (W.skip ?_)
 simp only [andThen,inBlock]
 refine W.region ?_
 simp (maxDischargeDepth:=9) only [auW,auC,auT,lget,BEq.rfl,beq_self_eq_true,decide_true,decide_false,reduceCtorEq,Nat.reduceLT,Nat.reduceEqDiff,↓reduceIte,g8r7,h5,b_add (show i + 1≤9223372036854775807 by omega)]
 refine ⟨by trivial,n - 1,by omega,i + 1,by omega,?_,?_,?_,by trivial⟩
 ·simp only [tget_puts,Nat.reduceLT,Nat.reduceEqDiff,↓reduceIte,h0]
 ·simp only [tget_puts,Nat.reduceLT,Nat.reduceEqDiff,↓reduceIte,h1]
 ·simp only [tget_puts,Nat.reduceLT,Nat.reduceEqDiff,↓reduceIte]
theorem same_ok (C:CodeOkC E) {N:Nat} {H:AHeap} {x y:AVal} {ts:List Trp} (hx:TReads N H x ts) (hy:TReads N H y ts) (hl:ts.length≤1073741824) :CallS E 8 [x,y] H (.bool true) H:=by
 suffices h:∃ v H',CallS E 8 [x,y] H v H'∧v = .bool true∧H' = H by obtain ⟨v,H',h,rfl,rfl⟩:=h; exact h
 refine CallS.by (R:=fun v H'=>v = .bool true∧H' = H) (t0:=tput (tput .l (some (Pos.ofNat 0)) x) (some (Pos.ofNat 1)) y) (C.s _ rfl) rfl C.f8 rfl ?_
 refine W.seq (W.region ?_)
 simp (maxDischargeDepth:=9) only [auW,auC,auT,lget,BEq.rfl,beq_self_eq_true,decide_true,decide_false,reduceCtorEq,Nat.reduceLT,Nat.reduceEqDiff,↓reduceIte,g8r0]
 refine W.seq (W.seq (W.region ?_))
 simp (maxDischargeDepth:=9) only [auW,auC,auT,lget,BEq.rfl,beq_self_eq_true,decide_true,decide_false,reduceCtorEq,Nat.reduceLT,Nat.reduceEqDiff,↓reduceIte,g8r1,hx.fLen,hy.fLen]
 refine W.cond_false (by simp [AOpnd.ev,tget_puts]) (W.skip ?_)
 simp only [andThen]
 refine W.seq (W.seq (W.region ?_))
 simp (maxDischargeDepth:=9) only [auW,auC,auT,lget,BEq.rfl,beq_self_eq_true,decide_true,decide_false,reduceCtorEq,Nat.reduceLT,Nat.reduceEqDiff,↓reduceIte,g8r3]
 refine W.block (W.mono (same_loop hx hy hl ts.length _ _ ⟨0,by omega,?_,?_,?_,rfl⟩) ?_)
 ·simp only [tget_puts,Nat.reduceLT,Nat.reduceEqDiff,↓reduceIte]
 ·simp only [tget_puts,Nat.reduceLT,Nat.reduceEqDiff,↓reduceIte]
 ·simp only [tget_puts,Nat.reduceLT,Nat.reduceEqDiff,↓reduceIte]
 rintro e ⟨t',ds⟩ H' ⟨rfl,hd,rfl⟩
 have hd:ds = []:=hd
 subst hd
 simp only [andThen,inBlock,beq_t]
 refine W.seq (W.region ?_)
 simp (maxDischargeDepth:=9) only [auW,auC,auT,lget,BEq.rfl,beq_self_eq_true,decide_true,decide_false,reduceCtorEq,Nat.reduceLT,Nat.reduceEqDiff,↓reduceIte,g8r9]
 refine W.ret ⟨.inr rfl,rfl,.bool true,?_,rfl,rfl⟩
 simp [resultA,g8,tget_puts]
end
end Go.Am
end

section
namespace Go.Am
open Go Go.RowKit
def FullT (N:Nat) (H:AHeap) (v:AVal) (m:List Trp) :Prop :=
 (v = .snil∧m = [])∨∃ b,v = .sl b 0 m.length m.length 0∧PT.get b H.t = some (.cells (tripVals m) false false)∧N≤b.toNat∧b.toNat < H.nx.toNat
theorem FullT.keep {N K:Nat} {H H':AHeap} {v:AVal} {m:List Trp} (h:FullT N H v m) (k:Keep K H H') (hK:K = H.nx.toNat) :FullT N H' v m:=by
 rcases h with h | ⟨b,e,h1,h2,h3⟩
 ·exact .inl h
 ·exact .inr ⟨b,e,by rw [k.get b (by omega)]; exact h1,h2,Nat.lt_of_lt_of_le h3 k.nx⟩
theorem FullT.reads {N:Nat} {H:AHeap} {v:AVal} {m:List Trp} (h:FullT N H v m) :TReads H.nx.toNat H v m:=by
 rcases h with h | ⟨b,e,h1,h2,h3⟩
 ·exact .inl h
 ·refine .inr ⟨b,0,m.length,0,e,?_,h3,.inl rfl,Nat.le_refl _⟩
  rw [hloadN_at h1 (by rw [tripVals_length]; omega),List.drop_zero,List.take_of_length_le (by rw [tripVals_length]; omega)]
theorem net_call {E:Env} {N:Nat} {H:AHeap} {x:AVal} {ts:List Trp} (hs:PT.get (Pos.ofNat 7) E.sums = some sNet) (hx:TReads N H x ts) (hl:ts.length≤1000000) :∃ v H',CallS E 7 [x] H v H'∧FullT H.nx.toNat H' v (netT ts)∧Keep H.nx.toNat H H':=by
 have e:tripsAt H x = some ts:=by
  rcases hx with ⟨rfl,rfl⟩ | ⟨b,o,cap,sz,rfl,h1,h2,h3,h4⟩
  ·rfl
  ·have e1:Nat.ble ts.length cap = true:=ble_t h4
   have e2:hloadN H b o (Nat.mul ts.length 3) = some (tripVals ts):=h1
   rcases h3 with rfl | rfl <;> simp only [tripsAt,e1,e2,tripsOf_vals]
 have e2:Nat.ble ts.length 100000000 = true:=ble_t (by omega)
 refine ⟨_,_,CallS.sum (by decide) hs (by simp only [sNet,e,e2]; rfl),.inr ⟨H.nx,rfl,get_new,Nat.le_refl _,?_⟩,keep_new⟩
 rw [nx_new]; omega
end Go.Am
end

section
namespace Go.Am
open Go Go.RowKit
def entI (p:Int × AVal) :AVal × AVal:=(.int .i64 p.1,p.2)
theorem findI_none {H:AHeap} {u:Int} :∀ {l:List (Int × AVal)},u ∉ l.map (·.1)→findKey H .int (.int .i64 u) (l.map entI) = some none
 | [],_=>rfl
 | p :: l,h=>by
  simp only [List.map_cons,List.mem_cons,not_or] at h
  simp only [List.map_cons,findKey,entI]
  rw [eqS_int,eqI_dec]
  simp only [h.1,decide_false]
  exact findI_none h.2
theorem findI {H:AHeap} {u:Int} {v:AVal} :∀ {l:List (Int × AVal)},(l.map (·.1)).Nodup→(u,v) ∈ l→findKey H .int (.int .i64 u) (l.map entI) = some (some v)
 | [],_,h=>by cases h
 | p :: l,hn,h=>by
  simp only [List.map_cons,List.nodup_cons] at hn
  simp only [List.map_cons,findKey,entI]
  rw [eqS_int,eqI_dec]
  rcases List.mem_cons.1 h with rfl | h
  ·simp only [decide_true]
   have:=findI_none (H:=H) hn.1
   simp only [entI] at this
   rw [findI_none hn.1]
  ·have hne:¬ u = p.1:=fun e=>hn.1 (by rw [← e]; exact List.mem_map.2 ⟨_,h,rfl⟩)
   simp only [hne,decide_false]
   exact findI hn.2 h
theorem putI_new {H:AHeap} {u:Int} {v:AVal} :∀ {l:List (Int × AVal)},u ∉ l.map (·.1)→putKey H .int (.int .i64 u) v (l.map entI) = some ((l ++ [(u,v)]).map entI)
 | [],_=>rfl
 | p :: l,h=>by
  simp only [List.map_cons,List.mem_cons,not_or] at h
  have ih:=putI_new (H:=H) (v:=v) h.2
  simp only [List.map_cons,List.cons_append,putKey,entI]
  rw [eqS_int,eqI_dec]
  simp only [h.1,decide_false]
  rw [ih]
  try rfl
theorem marks_entI (ms:List Mrk) :ms.map entM = (ms.map fun p=>(p.1,AVal.bool p.2)).map entI:=by
 rw [List.map_map]; rfl
def uEnt (us:List (Int × Pos)) :List (AVal × AVal):=(us.map fun p=>(p.1,AVal.map p.2)).map entI
structure Around (K:Nat) (H:AHeap) (mo:Pos) (us:List (Int × Pos)) (Wd:Int→List Mrk) :Prop where
 top:PT.get mo H.t = some (.map (uEnt us))
 nd:(us.map (·.1)).Nodup
 nd2:(us.map (·.2)).Nodup
 els:∀ p ∈ us,PT.get p.2 H.t = some (.map ((Wd p.1).map entM))∧K≤p.2.toNat∧p.2.toNat < H.nx.toNat
 no:∀ u,u ∉ us.map (·.1)→Wd u = []
 low:mo.toNat < K
 nx:K≤H.nx.toNat
structure KeepB (K:Nat) (mo:Pos) (H H':AHeap) :Prop where
 nx:H.nx.toNat≤H'.nx.toNat
 get:∀ p:Pos,p.toNat < K→p ≠ mo→PT.get p H'.t = PT.get p H.t
theorem KeepB.trans {K:Nat} {mo:Pos} {H H1 H2:AHeap} (h:KeepB K mo H H1) (k:KeepB K mo H1 H2) :KeepB K mo H H2:=⟨Nat.le_trans h.nx k.nx,fun p h1 h2=>(k.get p h1 h2).trans (h.get p h1 h2)⟩
theorem Keep.toB {K n:Nat} {mo:Pos} {H H':AHeap} (h:Keep n H H') (hK:K≤n) :KeepB K mo H H':=⟨h.nx,fun p hp _=>h.get p (by omega)⟩
theorem Around.keep {K:Nat} {H H':AHeap} {mo:Pos} {us:List (Int × Pos)} {Wd:Int→List Mrk} (h:Around K H mo us Wd) (k:Keep H.nx.toNat H H') :Around K H' mo us Wd:=by
 have hn:=h.nx
 refine ⟨by rw [k.get _ (by have:=h.low; omega)]; exact h.top,h.nd,h.nd2,fun p hp=>?_,h.no,h.low,Nat.le_trans h.nx k.nx⟩
 obtain ⟨h1,h2,h3⟩:=h.els p hp
 exact ⟨by rw [k.get _ h3]; exact h1,h2,Nat.lt_of_lt_of_le h3 k.nx⟩
theorem Around.look {K:Nat} {H:AHeap} {mo:Pos} {us:List (Int × Pos)} {Wd:Int→List Mrk} (h:Around K H mo us Wd) (u:Int) :
  (u ∉ us.map (·.1)∧fLookup H .int .mnil (.map mo) (.int .i64 u) false = some .mnil)∨∃ p,(u,p) ∈ us∧fLookup H .int .mnil (.map mo) (.int .i64 u) false = some (.map p):=by
 have e:(us.map fun p=>(p.1,AVal.map p.2)).map (·.1) = us.map (·.1):=by rw [List.map_map]; rfl
 by_cases hu:u ∈ us.map (·.1)
 ·obtain ⟨⟨u',p⟩,hp,rfl⟩:=List.mem_map.1 hu
  refine .inr ⟨p,hp,?_⟩
  have:=findI (H:=H) (u:=u') (v:=.map p) (l:=us.map fun p=>(p.1,AVal.map p.2)) (by rw [e]; exact h.nd) (List.mem_map.2 ⟨_,hp,rfl⟩)
  simp only [fLookup,keyFit,h.top,entries,uEnt,this]
 ·refine .inl ⟨hu,?_⟩
  have:=findI_none (H:=H) (u:=u) (l:=us.map fun p=>(p.1,AVal.map p.2)) (by rw [e]; exact hu)
  simp only [fLookup,keyFit,h.top,entries,uEnt,this]
theorem Around.grow {K:Nat} {H:AHeap} {mo:Pos} {us:List (Int × Pos)} {Wd:Int→List Mrk} (h:Around K H mo us Wd) {u:Int} (hu:u ∉ us.map (·.1)) :
  putKey (H.new (.map [])).2 .int (.int .i64 u) (.map H.nx) (uEnt us) = some (uEnt (us ++ [(u,H.nx)]))∧Around K ((H.new (.map [])).2.upd mo (.map (uEnt (us ++ [(u,H.nx)])))) mo (us ++ [(u,H.nx)]) Wd:=by
 have e:(us.map fun p=>(p.1,AVal.map p.2)).map (·.1) = us.map (·.1):=by rw [List.map_map]; rfl
 have hn:=h.nx
 have hl:=h.low
 have hne:mo ≠ H.nx:=fun e=>by rw [e] at hl; omega
 have hus:∀ p ∈ us,p.2 ≠ H.nx∧p.2 ≠ mo:=fun p hp=>by
  obtain ⟨_,h2,h3⟩:=h.els p hp
  exact ⟨fun e=>by rw [e] at h3; omega,fun e=>by rw [e] at h2; omega⟩
 have hnx:((H.new (.map [])).2.upd mo (.map (uEnt (us ++ [(u,H.nx)])))).nx = H.nx.succ:=rfl
 refine ⟨?_,get_upd,?_,?_,fun p hp=>?_,fun x hx=>?_,h.low,?_⟩
 ·unfold uEnt
  rw [putI_new (by rw [e]; exact hu)]
  simp
 ·rw [List.map_append,List.nodup_append]
  exact ⟨h.nd,by simp,fun a ha b hb=>by
   rw [List.map_cons,List.map_nil,List.mem_singleton] at hb
   subst hb
   exact fun e=>hu (e ▸ ha)⟩
 ·rw [List.map_append,List.nodup_append]
  exact ⟨h.nd2,by simp,fun a ha b hb=>by
   rw [List.map_cons,List.map_nil,List.mem_singleton] at hb
   subst hb
   obtain ⟨p,hp,rfl⟩:=List.mem_map.1 ha
   exact (hus p hp).1⟩
 ·rcases List.mem_append.1 hp with hp | hp
  ·obtain ⟨h1,h2,h3⟩:=h.els p hp
   refine ⟨?_,h2,by rw [hnx,Pos.toNat_succ]; omega⟩
   rw [get_upd_other (fun e=>(hus p hp).2 e.symm),get_new_other (hus p hp).1]
   exact h1
  ·rw [List.mem_singleton] at hp
   subst hp
   refine ⟨?_,hn,by rw [hnx,Pos.toNat_succ]; exact Nat.lt_succ_self _⟩
   rw [get_upd_other hne,h.no u hu]
   exact get_new
 ·rw [List.map_append,List.mem_append,not_or] at hx
  exact h.no x hx.1
 ·rw [hnx,Pos.toNat_succ]; omega
theorem Around.put {K:Nat} {H:AHeap} {mo:Pos} {us:List (Int × Pos)} {Wd:Int→List Mrk} (h:Around K H mo us Wd) {u v:Int} {g:Bool} {p:Pos} (hp:(u,p) ∈ us) (hv:v ∉ (Wd u).map (·.1)) :
  PT.get p H.t = some (.map ((Wd u).map entM))∧putKey H .int (.int .i64 v) (.bool g) ((Wd u).map entM) = some ((Wd u ++ [(v,g)]).map entM)∧Around K (H.upd p (.map ((Wd u ++ [(v,g)]).map entM))) mo us (fun x=>if x = u then Wd u ++ [(v,g)] else Wd x):=by
 obtain ⟨h1,h2,h3⟩:=h.els _ hp
 have hl:=h.low
 have hpm:p ≠ mo:=fun e=>by subst e; simp only at h2; omega
 refine ⟨h1,?_,?_,h.nd,h.nd2,fun q hq=>?_,fun x hx=>?_,h.low,h.nx⟩
 ·rw [marks_entI,putI_new (by rw [List.map_map]; exact hv),marks_entI]
  simp
 ·rw [get_upd_other hpm]; exact h.top
 ·obtain ⟨g1,g2,g3⟩:=h.els q hq
  refine ⟨?_,g2,g3⟩
  by_cases e:q.1 = u
  ·have:q = (u,p):=by
    obtain ⟨q1,q2⟩:=q
    simp only at e
    subst e
    have:=findI (H:=H) (l:=us.map fun p=>(p.1,AVal.map p.2)) (by rw [List.map_map]; exact h.nd) (List.mem_map.2 ⟨_,hq,rfl⟩)
    have k2:=findI (H:=H) (l:=us.map fun p=>(p.1,AVal.map p.2)) (by rw [List.map_map]; exact h.nd) (List.mem_map.2 ⟨_,hp,rfl⟩)
    simp only at this k2
    rw [this] at k2
    cases k2
    rfl
   subst this
   simp only [if_true]
   exact get_upd
  ·simp only [e,if_false]
   have hne:p ≠ q.2:=fun e2=>e (by
    obtain ⟨i,hi,rfl⟩:=List.mem_iff_getElem.1 hq
    obtain ⟨j,hj,ej⟩:=List.mem_iff_getElem.1 hp
    have hij:i = j:=by
     refine (List.getElem_inj (xs:=us.map (·.2)) (h₀:=by simpa using hi) (h₁:=by simpa using hj) h.nd2).1 ?_
     simp only [List.getElem_map,ej]
     exact e2.symm
    subst hij
    rw [ej])
   rw [get_upd_other hne]
   exact g1
 ·have:¬ x = u:=fun e=>hx (e ▸ List.mem_map.2 ⟨_,hp,rfl⟩)
  simp only [this,if_false]
  exact h.no x hx
def KeepX (us:List (Int × Pos)) (mo:Pos) (H H':AHeap) :Prop:=∀ q:Pos,q.toNat < H.nx.toNat→q ≠ mo→(∀ p ∈ us,p.2 ≠ q)→PT.get q H'.t = PT.get q H.t
abbrev CodeOkA:=CodeOkC
section
variable {E:Env}
theorem add_put {K:Nat} {H:AHeap} {mo pv:Pos} {us:List (Int × Pos)} {Wd:Int→List Mrk} {t:PT AVal} {u v:Int} {g:Bool} {p:Pos} (h0:tget t (Pos.ofNat 0) = .int .i64 u) (h1:tget t (Pos.ofNat 1) = .int .i64 v) (h2:tget t (Pos.ofNat 2) = .bool g) (h3:tget t (Pos.ofNat 3) = .ptr pv 0)
  (hA:Around K H mo us Wd) (hpv:PT.get pv H.t = some (.cells [.map mo] false false)) (hv:v ∉ (Wd u).map (·.1)) (hp:(u,p) ∈ us) {ro:Option Pos} :
  W E (.region g81r2) ro ⟨t,[]⟩ H (fun e a H'=>e = .normal∧a.ds = []∧Around K H' mo us (fun x=>if x = u then Wd u ++ [(v,g)] else Wd x)∧KeepB K mo H H'∧KeepX us mo H H'):=by
 obtain ⟨e1,e2,e3⟩:=hA.put hp (g:=g) hv
 have hld:hload H pv 0 = some (.map mo):=by rw [hload_at hpv (by simp)]; rfl
 have hlk:fLookup H .int .mnil (.map mo) (.int .i64 u) false = some (.map p):=by
  rcases hA.look u with ⟨hn,_⟩ | ⟨p',hp',h⟩
  ·exact absurd (List.mem_map.2 ⟨_,hp,rfl⟩) hn
  ·have a1:=findI (H:=H) (l:=us.map fun p=>(p.1,AVal.map p.2)) (by rw [List.map_map]; exact hA.nd) (List.mem_map.2 ⟨_,hp',rfl⟩)
   have a2:=findI (H:=H) (l:=us.map fun p=>(p.1,AVal.map p.2)) (by rw [List.map_map]; exact hA.nd) (List.mem_map.2 ⟨_,hp,rfl⟩)
   simp only at a1 a2
   rw [a1] at a2
   cases a2
   exact h
 refine W.region ?_
 simp (maxDischargeDepth:=9) only [auW,auC,auT,lget,BEq.rfl,beq_self_eq_true,decide_true,decide_false,reduceCtorEq,Nat.reduceLT,Nat.reduceEqDiff,↓reduceIte,g81r2,h0,h1,h2,h3,fLoad1,hld,hlk]
 refine wo_mapUpdate (b:=p) (kv:=.int .i64 v) (vv:=.bool g) (by simp only [auT,Nat.reduceLT,Nat.reduceEqDiff,↓reduceIte]; try rfl) e1 (by simp only [auT,Nat.reduceLT,Nat.reduceEqDiff,↓reduceIte]; try rfl) (by simp only [auT,Nat.reduceLT,Nat.reduceEqDiff,↓reduceIte]; try rfl) rfl e2 ?_
 simp (maxDischargeDepth:=9) only [auW,auC,auT,lget,BEq.rfl,beq_self_eq_true,decide_true,decide_false,reduceCtorEq,Nat.reduceLT,Nat.reduceEqDiff,↓reduceIte]
 refine ⟨by trivial,by trivial,e3,⟨Nat.le_refl _,fun q hq hqm=>?_⟩,fun q _ _ hq=>get_upd_other (hq _ hp)⟩
 have hKp:=(hA.els _ hp).2.1
 exact get_upd_other (fun e=>by rw [← e] at hq; simp only at hKp; omega)
theorem add_ok (C:CodeOkA E) {K:Nat} {H:AHeap} {mo pv:Pos} {us:List (Int × Pos)} {Wd:Int→List Mrk} (hA:Around K H mo us Wd) (hpv:PT.get pv H.t = some (.cells [.map mo] false false)) (hpl:pv.toNat < K) {u v:Int} {g:Bool} (hv:v ∉ (Wd u).map (·.1)) :
  ∃ w H',CallS E 81 [.int .i64 u,.int .i64 v,.bool g,.ptr pv 0] H w H'∧(∃ us',Around K H' mo us' (fun x=>if x = u then Wd u ++ [(v,g)] else Wd x))∧KeepB K mo H H'∧KeepX us mo H H':=by
 refine CallS.by (R:=fun w H'=>(∃ us',Around K H' mo us' (fun x=>if x = u then Wd u ++ [(v,g)] else Wd x))∧KeepB K mo H H'∧KeepX us mo H H') (t0:=tput (tput (tput (tput .l (some (Pos.ofNat 0)) (.int .i64 u)) (some (Pos.ofNat 1)) (.int .i64 v)) (some (Pos.ofNat 2)) (.bool g)) (some (Pos.ofNat 3)) (.ptr pv 0)) (C.s _ rfl) rfl C.f81 rfl ?_
 have hld:hload H pv 0 = some (.map mo):=by rw [hload_at hpv (by simp)]; rfl
 have q1:eqV H (.one .map) .mnil .mnil = some true:=rfl
 have q2:∀ p,eqV H (.one .map) (.map p) .mnil = some false:=fun _=>rfl
 refine W.seq (W.seq (W.region ?_))
 have hpm:mo ≠ pv:=fun e=>by rw [← e,hA.top] at hpv; cases hpv
 rcases hA.look u with ⟨hn,hlk⟩ | ⟨p,hp,hlk⟩
 ·simp (maxDischargeDepth:=9) only [auW,auC,auT,lget,BEq.rfl,beq_self_eq_true,decide_true,decide_false,reduceCtorEq,Nat.reduceLT,Nat.reduceEqDiff,↓reduceIte,g81r0,fLoad1,hld,hlk,fEq,q1]
  refine W.cond_true (by simp [AOpnd.ev,tget_puts]) (W.region ?_)
  obtain ⟨e1,e2⟩:=hA.grow hn
  have hne:mo ≠ H.nx:=fun e=>by have h1:=hA.low; have h2:=hA.nx; rw [e] at h1; omega
  have hpn:pv ≠ H.nx:=fun e=>by have h2:=hA.nx; rw [e] at hpl; omega
  have hmo:PT.get mo (H.new (.map [])).2.t = some (.map (uEnt us)):=by rw [get_new_other hne]; exact hA.top
  simp (maxDischargeDepth:=9) only [auW,auC,auT,lget,BEq.rfl,beq_self_eq_true,decide_true,decide_false,reduceCtorEq,Nat.reduceLT,Nat.reduceEqDiff,↓reduceIte,g81r1,fLoad1,hld]
  refine wo_mapUpdate (b:=mo) (kv:=.int .i64 u) (vv:=.map H.nx) (by simp only [auT,Nat.reduceLT,Nat.reduceEqDiff,↓reduceIte]; try rfl) hmo (by simp only [auT,Nat.reduceLT,Nat.reduceEqDiff,↓reduceIte]; try rfl) (by simp only [auT,Nat.reduceLT,Nat.reduceEqDiff,↓reduceIte]; try rfl) rfl e1 ?_
  simp (maxDischargeDepth:=9) only [auW,auC,auT,lget,BEq.rfl,beq_self_eq_true,decide_true,decide_false,reduceCtorEq,Nat.reduceLT,Nat.reduceEqDiff,↓reduceIte]
  simp only [andThen]
  have hpv2:PT.get pv ((H.new (.map [])).2.upd mo (.map (uEnt (us ++ [(u,H.nx)])))).t = some (.cells [.map mo] false false):=by
   rw [get_upd_other hpm,get_new_other hpn]; exact hpv
  have k1:KeepB K mo H ((H.new (.map [])).2.upd mo (.map (uEnt (us ++ [(u,H.nx)])))):=by
   have:=hA.nx
   refine ⟨by show H.nx.toNat≤H.nx.succ.toNat; rw [Pos.toNat_succ]; omega,fun q hq hqm=>?_⟩
   rw [get_upd_other (fun e=>hqm e.symm),get_new_other (fun e=>by rw [e] at hq; omega)]
  refine W.mono (add_put (u:=u) (v:=v) (g:=g) (pv:=pv) ?_ ?_ ?_ ?_ e2 hpv2 hv (List.mem_append_right _ (List.mem_singleton.2 rfl))) ?_
  ·simp only [tget_puts,Nat.reduceLT,Nat.reduceEqDiff,↓reduceIte]
  ·simp only [tget_puts,Nat.reduceLT,Nat.reduceEqDiff,↓reduceIte]
  ·simp only [tget_puts,Nat.reduceLT,Nat.reduceEqDiff,↓reduceIte]
  ·simp only [tget_puts,Nat.reduceLT,Nat.reduceEqDiff,↓reduceIte]
  rintro e a H' ⟨rfl,hd,hA',k2,k3⟩
  refine ⟨.inl rfl,hd,.tup [],?_,⟨_,hA'⟩,k1.trans k2,fun q hq hqm hqu=>?_⟩
  rotate_left
  ·have hqn:q ≠ H.nx:=fun e=>by rw [e] at hq; omega
   rw [k3 q (by show q.toNat < H.nx.succ.toNat; rw [Pos.toNat_succ]; omega) hqm (fun p hp=>by
    rcases List.mem_append.1 hp with hp | hp
    ·exact hqu p hp
    ·rw [List.mem_singleton] at hp
     subst hp
     exact fun e=>hqn e.symm),get_upd_other (fun e=>hqm e.symm),get_new_other hqn]
  simp [resultA,g81]
 ·simp (maxDischargeDepth:=9) only [auW,auC,auT,lget,BEq.rfl,beq_self_eq_true,decide_true,decide_false,reduceCtorEq,Nat.reduceLT,Nat.reduceEqDiff,↓reduceIte,g81r0,fLoad1,hld,hlk,fEq,q2]
  refine W.cond_false (by simp [AOpnd.ev,tget_puts]) (W.skip ?_)
  simp only [andThen]
  refine W.mono (add_put (u:=u) (v:=v) (g:=g) (pv:=pv) ?_ ?_ ?_ ?_ hA hpv hv hp) ?_
  ·simp only [tget_puts,Nat.reduceLT,Nat.reduceEqDiff,↓reduceIte]
  ·simp only [tget_puts,Nat.reduceLT,Nat.reduceEqDiff,↓reduceIte]
  ·simp only [tget_puts,Nat.reduceLT,Nat.reduceEqDiff,↓reduceIte]
  ·simp only [tget_puts,Nat.reduceLT,Nat.reduceEqDiff,↓reduceIte]
  rintro e a H' ⟨rfl,hd,hA',k2⟩
  refine ⟨.inl rfl,hd,.tup [],?_,⟨_,hA'⟩,k2⟩
  simp [resultA,g81]
end
end Go.Am
end

section
namespace Go.Am
open Go Go.RowKit
theorem adjT_append (v:Int) :∀ (a b:List Trp),adjT v (a ++ b) = adjT v a ++ adjT v b
 | [],b=>rfl
 | t :: a,b=>by
  simp only [List.cons_append,adjT,adjT_append v a b]
  cases eqI t.1 v <;> cases eqI t.2.1 v <;> rfl
theorem adjT_two {t:Trp} (ht:t.1 < t.2.1) (l:List Trp) :(fun x=>if x = t.2.1 then (if t.2.1 = t.1 then adjT t.1 l ++ [(t.2.1,t.2.2)] else adjT t.2.1 l) ++ [(t.1,t.2.2)] else (if x = t.1 then adjT t.1 l ++ [(t.2.1,t.2.2)] else adjT x l)) = fun x=>adjT x (l ++ [t]):=by
 funext x
 rw [adjT_append]
 have hne:¬ t.2.1 = t.1:=by omega
 simp only [adjT,hne,if_false]
 rw [eqI_dec,eqI_dec]
 by_cases h1:x = t.2.1
 ·subst h1
  have:¬ t.1 = t.2.1:=by omega
  simp [this]
 ·by_cases h2:x = t.1
  ·subst h2
   simp [h1]
  ·have h3:¬ t.1 = x:=fun e=>h2 e.symm
   have h4:¬ t.2.1 = x:=fun e=>h1 e.symm
   simp [h1,h2,h3,h4]
abbrev RisT (l:List Trp) :Prop:=l.Pairwise (fun a b=>LtK (keyT a) (keyT b))
theorem adj_new {ns:List Trp} (hr:RisT ns) (hlt:∀ t ∈ ns,t.1 < t.2.1) {i:Nat} (hi:i < ns.length) {u v:Int} (huv:normK u v = keyT ns[i]) :v ∉ (adjT u (ns.take i)).map (·.1):=by
 intro h
 obtain ⟨⟨v',g⟩,hm,rfl⟩:=List.mem_map.1 h
 obtain ⟨_,t,ht,ek,_⟩:=(adjT_mem (fun t ht=>hlt t (List.mem_of_mem_take ht))).1 hm
 rw [huv] at ek
 obtain ⟨j,hj,rfl⟩:=List.mem_iff_getElem.1 ht
 rw [List.getElem_take] at ek
 have hji:j < i:=by rw [List.length_take] at hj; omega
 have:=List.pairwise_iff_getElem.1 hr j i (by omega) hi hji
 rw [ek] at this
 exact LtK.irrefl _ this
section
variable {E:Env}
theorem around_loop (C:CodeOkA E) {K:Nat} {H0:AHeap} {w:AVal} {ns:List Trp} {mo pv:Pos} (hw:TReads K H0 w ns) (hr:RisT ns) (hlt:∀ t ∈ ns,t.1 < t.2.1) (hl:ns.length≤1000000) (hpv:PT.get pv H0.t = some (.cells [.map mo] false false)) (hpl:pv.toNat < K) (hpm:pv ≠ mo)
  (hwm:∀ b o k cap sz,w = .sl b o k cap sz→b ≠ mo) {ro:Option Pos} :
  ∀ (n:Nat) (t:PT AVal) (H:AHeap),(∃ i us,i + n = ns.length∧tget t (Pos.ofNat 4) = .func 81 [] [.ptr pv 0]∧tget t (Pos.ofNat 3) = .ptr pv 0∧tget t (Pos.ofNat 10) = w∧tget t (Pos.ofNat 11) = .int .i64 (.ofNat ns.length)∧tget t (Pos.ofNat 12) = .int .i64 (.ofNat i)∧Around K H mo us (fun x=>adjT x (ns.take i))∧KeepB K mo H0 H) →
  W E (.loop g33l9) ro ⟨t,[]⟩ H (fun e a H'=>e = .exit 0∧a.ds = []∧tget a.t (Pos.ofNat 3) = .ptr pv 0∧(∃ us,Around K H' mo us (fun x=>adjT x ns))∧KeepB K mo H0 H'):=by
 refine W.loop_inv (Q:=fun e a H'=>e = .exit 0∧a.ds = []∧tget a.t (Pos.ofNat 3) = .ptr pv 0∧(∃ us,Around K H' mo us (fun x=>adjT x ns))∧KeepB K mo H0 H') _ ?_
 rintro n t H ⟨i,us,hi,h4,h3,h10,h11,h12,hA,hk⟩
 refine W.seq (W.region ?_)
 simp (maxDischargeDepth:=9) only [auW,auC,auT,lget,BEq.rfl,beq_self_eq_true,decide_true,decide_false,reduceCtorEq,Nat.reduceLT,Nat.reduceEqDiff,↓reduceIte,g33r4,h11,h12]
 refine W.seq (W.cond_if (p:=i < ns.length) (by simp [AOpnd.ev,tget_puts]) (fun hlt'=>W.skip ?_) (fun hge=>W.exit ?_))
 rotate_left
 ·rw [List.take_of_length_le (by omega)] at hA
  refine ⟨by trivial,by trivial,?_,⟨_,hA⟩,hk⟩
  simp only [tget_puts,Nat.reduceLT,Nat.reduceEqDiff,↓reduceIte,h3]
 simp only [andThen]
 have hwk:TReads K H w ns:=by
  rcases hw with h | ⟨b,o,cap,sz,e,h1,h2,h3⟩
  ·exact .inl h
  ·refine .inr ⟨b,o,cap,sz,e,?_,h2,h3⟩
   unfold hloadN at h1 ⊢
   rw [hk.get b h2 (hwm _ _ _ _ _ e)]
   exact h1
 obtain ⟨b,o,e1,e2,_⟩:=hwk.fIdx hlt'
 have hti:ns[i].1 < ns[i].2.1:=hlt _ (List.getElem_mem hlt')
 have hn1:ns[i].2.1 ∉ (adjT ns[i].1 (ns.take i)).map (·.1):=adj_new hr hlt hlt' (by unfold normK keyT; rw [if_pos hti])
 have hn2:ns[i].1 ∉ (adjT ns[i].2.1 (ns.take i)).map (·.1):=adj_new hr hlt hlt' (by unfold normK keyT; rw [if_neg (by omega)])
 have htk:ns.take (i + 1) = ns.take i ++ [ns[i]]:=by rw [List.take_succ_eq_append_getElem hlt']
 obtain ⟨H1,s1,v1,hnx1⟩:=var3 (H:=H) ns[i]
 have hA1:=hA.keep v1.keep
 have hpvH:PT.get pv H.t = some (.cells [.map mo] false false):=by rw [hk.get _ hpl hpm]; exact hpv
 have hpv1:PT.get pv H1.t = some (.cells [.map mo] false false):=by rw [v1.keep.get _ (by have:=hA.nx; omega)]; exact hpvH
 generalize ns[i] = y at e1 e2 s1 v1 hti hn1 hn2 htk
 refine W.seq (W.block (W.seq (W.region ?_)))
 simp (maxDischargeDepth:=9) only [auW,auC,auT,lget,BEq.rfl,beq_self_eq_true,decide_true,decide_false,reduceCtorEq,Nat.reduceLT,Nat.reduceEqDiff,↓reduceIte,g33r5,h10,h12,e1,fLoadN,e2]
 refine wo_store (b:=H.nx) (o:=0) (vs:=cell3 y) (by simp only [auT,Nat.reduceLT,Nat.reduceEqDiff,↓reduceIte]; try rfl) (by simp only [auT,Nat.reduceLT,Nat.reduceEqDiff,↓reduceIte]; try rfl) rfl s1 ?_
 simp (maxDischargeDepth:=9) only [auW,auC,auT,lget,BEq.rfl,beq_self_eq_true,decide_true,decide_false,reduceCtorEq,Nat.reduceLT,Nat.reduceEqDiff,↓reduceIte]
 simp only [andThen]
 refine W.seq (W.region ?_)
 obtain ⟨w1,H2,hc1,⟨us1,hA2⟩,k2,x2⟩:=add_ok C hA1 hpv1 hpl (u:=y.1) (v:=y.2.1) (g:=y.2.2) hn1
 simp (maxDischargeDepth:=9) only [auW,auC,auT,lget,BEq.rfl,beq_self_eq_true,decide_true,decide_false,reduceCtorEq,Nat.reduceLT,Nat.reduceEqDiff,↓reduceIte,g33r6,h4,v1.l0,v1.l1,v1.l2]
 refine wo_callV (f:=81) (first:=[]) (caps:=[.ptr pv 0]) (by simp only [auT,Nat.reduceLT,Nat.reduceEqDiff,↓reduceIte]; try rfl) hc1 (by simp only [auT,Nat.reduceLT,Nat.reduceEqDiff,↓reduceIte]; try rfl) ?_
 simp (maxDischargeDepth:=9) only [auW,auC,auT,lget,BEq.rfl,beq_self_eq_true,decide_true,decide_false,reduceCtorEq,Nat.reduceLT,Nat.reduceEqDiff,↓reduceIte]
 simp only [andThen]
 have hvl:H.nx.toNat < H1.nx.toNat:=v1.low
 have hpv2:PT.get pv H2.t = some (.cells [.map mo] false false):=by rw [k2.get _ hpl hpm]; exact hpv1
 have hvg:PT.get H.nx H2.t = some (.cells (cell3 y) false false):=by
  rw [x2 _ hvl (fun e=>by have h1:=hA.low; have h2:=hA.nx; rw [← e] at h1; omega) (fun p hp e=>by have h3:=(hA.els p hp).2.2; rw [e] at h3; omega)]
  exact v1.at'
 have a0:hload H2 H.nx (0 + 0) = some (.int .i64 y.1):=by rw [hload_at hvg (by simp)]; rfl
 have a1:hload H2 H.nx (0 + 1) = some (.int .i64 y.2.1):=by rw [hload_at hvg (by simp)]; rfl
 have a2:hload H2 H.nx (0 + 2) = some (.bool y.2.2):=by rw [hload_at hvg (by simp)]; rfl
 have hne:¬ y.2.1 = y.1:=by omega
 obtain ⟨w2,H3,hc2,⟨us2,hA3⟩,k3,_⟩:=add_ok C hA2 hpv2 hpl (u:=y.2.1) (v:=y.1) (g:=y.2.2) (by simp only [hne,if_false]; exact hn2)
 rw [adjT_two hti,← htk] at hA3
 refine W.region ?_
 simp (maxDischargeDepth:=9) only [auW,auC,auT,lget,BEq.rfl,beq_self_eq_true,decide_true,decide_false,reduceCtorEq,Nat.reduceLT,Nat.reduceEqDiff,↓reduceIte,g33r7,h4,a0,a1,a2]
 refine wo_callV (f:=81) (first:=[]) (caps:=[.ptr pv 0]) (by simp only [auT,Nat.reduceLT,Nat.reduceEqDiff,↓reduceIte]; try rfl) hc2 (by simp only [auT,Nat.reduceLT,Nat.reduceEqDiff,↓reduceIte]; try rfl) ?_
 simp (maxDischargeDepth:=9) only [auW,auC,auT,lget,BEq.rfl,beq_self_eq_true,decide_true,decide_false,reduceCtorEq,Nat.reduceLT,Nat.reduceEqDiff,↓reduceIte]
 simp only [andThen,inBlock]
 refine W.region ?_
 simp (maxDischargeDepth:=9) only [auW,auC,auT,lget,BEq.rfl,beq_self_eq_true,decide_true,decide_false,reduceCtorEq,Nat.reduceLT,Nat.reduceEqDiff,↓reduceIte,g33r8,h12,b_add (show i + 1≤9223372036854775807 by omega)]
 refine ⟨by trivial,n - 1,by omega,i + 1,us2,by omega,?_,?_,?_,?_,?_,hA3,hk.trans ((v1.keep.toB hA.nx).trans (k2.trans k3))⟩
 ·simp only [tget_puts,Nat.reduceLT,Nat.reduceEqDiff,↓reduceIte,h4]
 ·simp only [tget_puts,Nat.reduceLT,Nat.reduceEqDiff,↓reduceIte,h3]
 ·simp only [tget_puts,Nat.reduceLT,Nat.reduceEqDiff,↓reduceIte,h10]
 ·simp only [tget_puts,Nat.reduceLT,Nat.reduceEqDiff,↓reduceIte,h11]
 ·simp only [tget_puts,Nat.reduceLT,Nat.reduceEqDiff,↓reduceIte]
theorem around_ok (C:CodeOkA E) {N:Nat} {H:AHeap} {x:AVal} {ts:List Trp} (hx:TReads N H x ts) (hN:N≤H.nx.toNat) (hl:ts.length≤1000000) :
  ∃ v H',CallS E 33 [x] H v H'∧(∃ mo K us,v = .map mo∧Around K H' mo us (fun u=>adjT u (netT ts))∧H.nx.toNat≤mo.toNat)∧Keep H.nx.toNat H H':=by
 refine CallS.by (R:=fun v H'=>(∃ mo K us,v = .map mo∧Around K H' mo us (fun u=>adjT u (netT ts))∧H.nx.toNat≤mo.toNat)∧Keep H.nx.toNat H H') (t0:=tput .l (some (Pos.ofNat 0)) x) (C.s _ rfl) rfl C.f33 rfl ?_
 refine W.seq (W.region ?_)
 simp (maxDischargeDepth:=9) only [auW,auC,auT,lget,BEq.rfl,beq_self_eq_true,decide_true,decide_false,reduceCtorEq,Nat.reduceLT,Nat.reduceEqDiff,↓reduceIte,g33r0]
 refine W.seq (W.region ?_)
 simp (maxDischargeDepth:=9) only [auW,auC,auT,lget,BEq.rfl,beq_self_eq_true,decide_true,decide_false,reduceCtorEq,Nat.reduceLT,Nat.reduceEqDiff,↓reduceIte,g33r1]
 have hst:hstoreN ((H.new (.map [])).2.new (.cells [.mnil] false false)).2 (H.new (.map [])).2.nx 0 [.map H.nx] = some (((H.new (.map [])).2.new (.cells [.mnil] false false)).2.upd (H.new (.map [])).2.nx (.cells [.map H.nx] false false)):=by
  unfold hstoreN
  rw [get_new]
  rfl
 refine wo_store (b:=(H.new (.map [])).2.nx) (o:=0) (vs:=[.map H.nx]) (by simp only [auT,Nat.reduceLT,Nat.reduceEqDiff,↓reduceIte]; try rfl) (by simp only [auT,Nat.reduceLT,Nat.reduceEqDiff,↓reduceIte]; try rfl) rfl hst ?_
 simp (maxDischargeDepth:=9) only [auW,auC,auT,lget,BEq.rfl,beq_self_eq_true,decide_true,decide_false,reduceCtorEq,Nat.reduceLT,Nat.reduceEqDiff,↓reduceIte]
 simp only [andThen]
 have hk1:Keep H.nx.toNat H (((H.new (.map [])).2.new (.cells [.mnil] false false)).2.upd (H.new (.map [])).2.nx (.cells [.map H.nx] false false)):=by
  have e:(H.new (.map [])).2.nx = H.nx.succ:=rfl
  exact keep_new.trans ((keep_new.mono (by rw [e,Pos.toNat_succ]; omega)).trans (keep_upd (by rw [e,Pos.toNat_succ]; omega)))
 have hpg:PT.get (H.new (.map [])).2.nx (((H.new (.map [])).2.new (.cells [.mnil] false false)).2.upd (H.new (.map [])).2.nx (.cells [.map H.nx] false false)).t = some (.cells [.map H.nx] false false):=get_upd
 have hpn:(H.new (.map [])).2.nx = H.nx.succ:=rfl
 have hmg:PT.get H.nx (((H.new (.map [])).2.new (.cells [.mnil] false false)).2.upd (H.new (.map [])).2.nx (.cells [.map H.nx] false false)).t = some (.map []):=by
  have hne:H.nx ≠ (H.new (.map [])).2.nx:=fun e=>by
   have:=congrArg Pos.toNat e
   rw [hpn,Pos.toNat_succ] at this; omega
  rw [get_upd_other (fun e=>hne e.symm),get_new_other hne]
  exact get_new
 have hnx1:(((H.new (.map [])).2.new (.cells [.mnil] false false)).2.upd (H.new (.map [])).2.nx (.cells [.map H.nx] false false)).nx = H.nx.succ.succ:=rfl
 rw [hpn] at hk1 hpg hmg hnx1 ⊢
 generalize (((H.new (.map [])).2.new (.cells [.mnil] false false)).2.upd H.nx.succ (.cells [.map H.nx] false false)) = H1 at hk1 hpg hmg hnx1 ⊢
 have hs1:H.nx.succ.toNat = H.nx.toNat + 1:=Pos.toNat_succ _
 have hs2:H1.nx.toNat = H.nx.toNat + 2:=by rw [hnx1]; simp only [Pos.toNat_succ]
 refine W.seq (W.region ?_)
 simp (maxDischargeDepth:=9) only [auW,auC,auT,lget,BEq.rfl,beq_self_eq_true,decide_true,decide_false,reduceCtorEq,Nat.reduceLT,Nat.reduceEqDiff,↓reduceIte,g33r2]
 simp only [andThen]
 obtain ⟨w,H2,hc,hw,k2⟩:=net_call C.s7 (hx.keep hk1 hN) hl
 have hnl:=netT_len ts
 refine W.seq (W.seq (W.region ?_))
 simp (maxDischargeDepth:=9) only [auW,auC,auT,lget,BEq.rfl,beq_self_eq_true,decide_true,decide_false,reduceCtorEq,Nat.reduceLT,Nat.reduceEqDiff,↓reduceIte,g33r3]
 refine wo_callE (hc) (by simp only [auT,Nat.reduceLT,Nat.reduceEqDiff,↓reduceIte]) ?_
 simp (maxDischargeDepth:=9) only [auW,auC,auT,lget,BEq.rfl,beq_self_eq_true,decide_true,decide_false,reduceCtorEq,Nat.reduceLT,Nat.reduceEqDiff,↓reduceIte,hw.reads.fLen]
 simp only [andThen]
 have hpv2:PT.get H.nx.succ H2.t = some (.cells [.map H.nx] false false):=by rw [k2.get _ (by omega)]; exact hpg
 have hmg2:PT.get H.nx H2.t = some (.map []):=by rw [k2.get _ (by omega)]; exact hmg
 have h2n:=k2.nx
 have hne:H.nx.succ ≠ H.nx:=fun e=>by
  have:=congrArg Pos.toNat e
  omega
 have hwm:∀ b o k cap sz,w = .sl b o k cap sz→b ≠ H.nx:=by
  intro b o k cap sz e
  rcases hw with ⟨h,_⟩ | ⟨b',h,_,hb',_⟩
  ·rw [h] at e; cases e
  ·rw [h] at e
   cases e
   exact fun e=>by rw [e] at hb'; omega
 have hall:=netT_lt ts
 have hris:RisT (netT ts):=netT_sorted ts
 refine W.block (W.mono (around_loop C (K:=H2.nx.toNat) (H0:=H2) (w:=w) (mo:=H.nx) (pv:=H.nx.succ) hw.reads hris hall (by omega) hpv2 (by omega) hne hwm (netT ts).length _ _ ⟨0,[],by omega,?_,?_,?_,?_,?_,⟨hmg2,by simp,by simp,fun p hp=>(by cases hp),fun _ _=>rfl,(by omega),Nat.le_refl _⟩,⟨Nat.le_refl _,fun _ _ _=>rfl⟩⟩) ?_)
 ·simp only [tget_puts,Nat.reduceLT,Nat.reduceEqDiff,↓reduceIte]
 ·simp only [tget_puts,Nat.reduceLT,Nat.reduceEqDiff,↓reduceIte]
 ·simp only [tget_puts,Nat.reduceLT,Nat.reduceEqDiff,↓reduceIte]
 ·simp only [tget_puts,Nat.reduceLT,Nat.reduceEqDiff,↓reduceIte]
 ·simp only [tget_puts,Nat.reduceLT,Nat.reduceEqDiff,↓reduceIte]
 rintro e ⟨t',ds⟩ H3 ⟨rfl,hd,q3,⟨us,hA⟩,k3⟩
 have hd:ds = []:=hd
 subst hd
 have q3:tget t' (Pos.ofNat 3) = .ptr H.nx.succ 0:=q3
 simp only [andThen,inBlock,beq_t]
 have hld:hload H3 H.nx.succ 0 = some (.map H.nx):=by rw [hload_at (by rw [k3.get _ (by omega) hne]; exact hpv2) (by simp)]; rfl
 refine W.seq (W.region ?_)
 simp (maxDischargeDepth:=9) only [auW,auC,auT,lget,BEq.rfl,beq_self_eq_true,decide_true,decide_false,reduceCtorEq,Nat.reduceLT,Nat.reduceEqDiff,↓reduceIte,g33r10,q3,fLoad1,hld]
 refine W.ret ⟨.inr rfl,rfl,.map H.nx,?_,⟨H.nx,H2.nx.toNat,us,rfl,hA,Nat.le_refl _⟩,⟨by have:=k3.nx; omega,fun p hp=>?_⟩⟩
 ·simp [resultA,g33,tget_puts]
 ·rw [k3.get p (by omega) (fun e=>by rw [e] at hp; omega),k2.get p (by omega),hk1.get p hp]
theorem adjT_nodup {ns:List Trp} (hr:RisT ns) (hlt:∀ t ∈ ns,t.1 < t.2.1) (v:Int) :∀ {i:Nat},i≤ns.length→((adjT v (ns.take i)).map (·.1)).Nodup
 | 0,_=>by simp [adjT]
 | i + 1,h=>by
  have ih:=adjT_nodup hr hlt v (i:=i) (by omega)
  have hti:=hlt ns[i] (List.getElem_mem (by omega))
  have hn1:=fun (e:ns[i].1 = v)=>adj_new hr hlt (i:=i) (by omega) (u:=v) (v:=ns[i].2.1) (by unfold normK keyT; rw [← e,if_pos hti])
  have hn2:=fun (e:ns[i].2.1 = v)=>adj_new hr hlt (i:=i) (by omega) (u:=v) (v:=ns[i].1) (by unfold normK keyT; rw [← e,if_neg (by omega)])
  rw [List.take_succ_eq_append_getElem (by omega),adjT_append,List.map_append,List.nodup_append]
  refine ⟨ih,?_,fun a ha b hb e=>?_⟩
  ·simp only [adjT]
   cases eqI ns[i].1 v <;> cases eqI ns[i].2.1 v <;> simp
  ·subst e
   simp only [adjT] at hb
   rw [eqI_dec,eqI_dec] at hb
   by_cases e1:ns[i].1 = v
   ·simp [e1] at hb
    subst hb
    exact hn1 e1 ha
   ·by_cases e2:ns[i].2.1 = v
    ·simp [e1,e2] at hb
     subst hb
     exact hn2 e2 ha
    ·simp [e1,e2] at hb
theorem marksOf_map:∀ ms:List Mrk,marksOf (ms.map entM) = some ms
 | []=>rfl
 | (u,g) :: l=>by simp only [List.map_cons,entM,marksOf]; rw [marksOf_map l]
theorem nodupM_of:∀ {ms:List Mrk},(ms.map (·.1)).Nodup→nodupM ms = true
 | [],_=>rfl
 | p :: l,h=>by
  simp only [List.map_cons,List.nodup_cons] at h
  have:hasM p.1 l = false:=by
   cases hb:hasM p.1 l with
   | false=>rfl
   | true=>exact absurd ((hasM_iff _ _).1 hb) h.1
  simp only [nodupM,this]
  exact nodupM_of h.2
theorem intsAt_of {N:Nat} {H:AHeap} {x:AVal} {to:List Int} (h:Reads N H x (intVals to)) :intsAt H x = some to:=by
 rcases h with ⟨rfl,h⟩ | ⟨b,o,cap,sz,rfl,h1,h2,h3,h4⟩
 ·have:to = []:=by
   cases to with
   | nil=>rfl
   | cons a l=>cases h
  subst this
  rfl
 ·rw [intVals_length] at h1 h4 ⊢
  have e1:Nat.ble to.length cap = true:=ble_t h4
  rcases h3 with rfl | rfl <;> simp only [intsAt,e1,h1,intsOf_vals]
theorem adjT_length (v:Int) :∀ l:List Trp,(adjT v l).length≤l.length
 | []=>Nat.le_refl _
 | t :: l=>by
  have:=adjT_length v l
  simp only [adjT]
  cases eqI t.1 v <;> cases eqI t.2.1 v <;> simp only [List.length_cons] <;> omega
theorem merge_ok (C:CodeOkA E) {N:Nat} {H:AHeap} {x y:AVal} {to:List Int} {ts:List Trp} (v:Int) (hy:Reads N H y (intVals to)) (hx:TReads N H x ts) (hN:N≤H.nx.toNat) (hl:ts.length≤1000000) (hl2:to.length≤1000000) :
  ∃ w H',CallS E 10 [.int .i64 v,y,x] H w H'∧(∃ b zs,w = .sl b 0 (mergeZ v to (adjT v (netT ts))).length (mergeZ v to (adjT v (netT ts))).length 0∧PT.get b H'.t = some (.cells (intVals (mergeZ v to (adjT v (netT ts))) ++ zs) false false)∧H.nx.toNat≤b.toNat∧b.toNat < H'.nx.toNat)∧Keep H.nx.toNat H H':=by
 refine CallS.by (R:=fun w H'=>(∃ b zs,w = .sl b 0 (mergeZ v to (adjT v (netT ts))).length (mergeZ v to (adjT v (netT ts))).length 0∧PT.get b H'.t = some (.cells (intVals (mergeZ v to (adjT v (netT ts))) ++ zs) false false)∧H.nx.toNat≤b.toNat∧b.toNat < H'.nx.toNat)∧Keep H.nx.toNat H H') (t0:=tput (tput (tput .l (some (Pos.ofNat 0)) (.int .i64 v)) (some (Pos.ofNat 1)) y) (some (Pos.ofNat 2)) x) (C.s _ rfl) rfl C.f10 rfl ?_
 refine W.seq (W.region ?_)
 simp (maxDischargeDepth:=9) only [auW,auC,auT,lget,BEq.rfl,beq_self_eq_true,decide_true,decide_false,reduceCtorEq,Nat.reduceLT,Nat.reduceEqDiff,↓reduceIte,g10r0]
 simp only [andThen]
 obtain ⟨_,H1,hc1,⟨mo,K,us,rfl,hA,hmo⟩,k1⟩:=around_ok C hx hN hl
 have hall:=netT_lt ts
 have hris:RisT (netT ts):=netT_sorted ts
 have hnd:=nodupM_of (by
  have:=adjT_nodup hris hall v (i:=(netT ts).length) (Nat.le_refl _)
  rw [List.take_length] at this
  exact this)
 have hi1:=intsAt_of (hy.keep k1 hN)
 obtain ⟨m,hlk,hmk⟩ :∃ m,fLookup H1 .int .mnil (.map mo) (.int .i64 v) false = some m∧marksAt H1 m = some (adjT v (netT ts)):=by
  rcases hA.look v with ⟨hn,h⟩ | ⟨p,hp,h⟩
  ·have:adjT v (netT ts) = []:=hA.no v hn
   exact ⟨_,h,by rw [this]; rfl⟩
  ·refine ⟨_,h,?_⟩
   have:=(hA.els _ hp).1
   simp only at this
   simp only [marksAt,this,entries,marksOf_map]
 have hnl:=netT_len ts
 have hal:=adjT_length v (netT ts)
 have hle:Nat.ble (Nat.add to.length (adjT v (netT ts)).length) 100000000 = true:=ble_t (by show to.length + (adjT v (netT ts)).length≤_; omega)
 have hc2:CallS E 32 [.int .i64 v,y,m] H1 (.sl H1.nx 0 (mergeZ v to (adjT v (netT ts))).length (mergeZ v to (adjT v (netT ts))).length 0) (H1.new (.cells (intVals (mergeZ v to (adjT v (netT ts))) ++ zeros (Nat.sub (Nat.add to.length (adjT v (netT ts)).length) (mergeZ v to (adjT v (netT ts))).length)) false false)).2:=by
  refine CallS.sum (by decide) C.s28 ?_
  simp only [sMerge,hi1,hmk,hnd,hle]
  rfl
 refine W.seq (W.region ?_)
 simp (maxDischargeDepth:=9) only [auW,auC,auT,lget,BEq.rfl,beq_self_eq_true,decide_true,decide_false,reduceCtorEq,Nat.reduceLT,Nat.reduceEqDiff,↓reduceIte,g10r1]
 refine wo_callE (hc1) (by simp only [auT,Nat.reduceLT,Nat.reduceEqDiff,↓reduceIte]) ?_
 simp (maxDischargeDepth:=9) only [auW,auC,auT,lget,BEq.rfl,beq_self_eq_true,decide_true,decide_false,reduceCtorEq,Nat.reduceLT,Nat.reduceEqDiff,↓reduceIte,hlk]
 refine wo_callE (hc2) (by simp only [auT,Nat.reduceLT,Nat.reduceEqDiff,↓reduceIte]) ?_
 simp (maxDischargeDepth:=9) only [auW,auC,auT,lget,BEq.rfl,beq_self_eq_true,decide_true,decide_false,reduceCtorEq,Nat.reduceLT,Nat.reduceEqDiff,↓reduceIte]
 have h1n:=k1.nx
 refine W.ret ⟨.inr rfl,rfl,_,?_,⟨H1.nx,_,rfl,get_new,h1n,?_⟩,k1.trans (keep_new.mono h1n)⟩
 ·simp [resultA,g10,tget_puts]
 ·show H1.nx.toNat < H1.nx.succ.toNat
  rw [Pos.toNat_succ]; omega
end
end Go.Am
end

section
namespace Go.Am
open Go Go.RowKit
section
variable {E:Env}
theorem intVals_at:∀ {l:List Int} {i:Nat} (h:i < l.length),(intVals l)[i]? = some (.int .i64 l[i])
 | x :: l,0,_=>rfl
 | x :: l,i + 1,h=>intVals_at (l:=l) (by simpa using h)
theorem IReads.fIdx {N:Nat} {H:AHeap} {x:AVal} {l:List Int} (hx:Reads N H x (intVals l)) {i:Nat} (hi:i < l.length) :∃ b o,fIdxS 1 x (.int .i64 (.ofNat i)) = some (.ptr b o)∧hload H b o = some (.int .i64 l[i]):=by
 obtain ⟨b,o,e1,e2⟩:=hx.fIdx' (i:=i) (by rw [intVals_length]; exact hi)
 refine ⟨b,o,e1,?_⟩
 rw [e2]
 have:=intVals_at hi
 obtain ⟨h1,h2⟩:=List.getElem?_eq_some_iff.1 this
 rw [h2]
theorem IReads.fLen {N:Nat} {H:AHeap} {x:AVal} {l:List Int} (hx:Reads N H x (intVals l)) :fLen H 1 x = some (.int .i64 (.ofNat l.length)):=by
 have:=hx.fLen'
 rw [intVals_length] at this
 exact this
theorem isame_loop {N:Nat} {H:AHeap} {x y:AVal} {l:List Int} (hx:Reads N H x (intVals l)) (hy:Reads N H y (intVals l)) (hl:l.length≤1073741824) {ro:Option Pos} :
  ∀ (n:Nat) (t:PT AVal) (H1:AHeap),(∃ i,i + n = l.length∧tget t (Pos.ofNat 0) = x∧tget t (Pos.ofNat 1) = y∧tget t (Pos.ofNat 5) = .int .i64 (.ofNat i)∧H1 = H) →
  W E (.loop g9l8) ro ⟨t,[]⟩ H1 (fun e a H'=>e = .exit 0∧a.ds = []∧H' = H):=by
 refine W.loop_inv (Q:=fun e a H'=>e = .exit 0∧a.ds = []∧H' = H) _ ?_
 rintro n t H1 ⟨i,hi,h0,h1,h5,rfl⟩
 refine W.seq (W.seq (W.region ?_))
 simp (maxDischargeDepth:=9) only [auW,auC,auT,lget,BEq.rfl,beq_self_eq_true,decide_true,decide_false,reduceCtorEq,Nat.reduceLT,Nat.reduceEqDiff,↓reduceIte,g9r4,h0,h5,(IReads.fLen hx)]
 refine W.cond_if (p:=i < l.length) (by simp [AOpnd.ev,tget_puts]) (fun hlt=>W.skip ?_) (fun hge=>W.exit ?_)
 rotate_left
 ·exact ⟨by trivial,by trivial,by trivial⟩
 simp only [andThen]
 obtain ⟨bx,ox,e1,e2⟩:=IReads.fIdx hx hlt
 obtain ⟨b',o',f1,f2⟩:=IReads.fIdx hy hlt
 refine W.seq (W.block (W.seq (W.draw ?_)))
 simp (maxDischargeDepth:=9) only [auD,auC,auT,lget,BEq.rfl,beq_self_eq_true,decide_true,decide_false,reduceCtorEq,Nat.reduceLT,Nat.reduceEqDiff,↓reduceIte,g9d5,h0,h1,h5,e1,f1,fLoad1,e2,f2,eqb,eq_self]
 simp only [andThen]
 refine W.cond_false (by simp [AOpnd.ev,tget_puts]) (W.skip ?_)
 simp only [andThen,inBlock]
 refine W.region ?_
 simp (maxDischargeDepth:=9) only [auW,auC,auT,lget,BEq.rfl,beq_self_eq_true,decide_true,decide_false,reduceCtorEq,Nat.reduceLT,Nat.reduceEqDiff,↓reduceIte,g9r7,h5,b_add (show i + 1≤9223372036854775807 by omega)]
 refine ⟨by trivial,n - 1,by omega,i + 1,by omega,?_,?_,?_,by trivial⟩
 ·simp only [tget_puts,Nat.reduceLT,Nat.reduceEqDiff,↓reduceIte,h0]
 ·simp only [tget_puts,Nat.reduceLT,Nat.reduceEqDiff,↓reduceIte,h1]
 ·simp only [tget_puts,Nat.reduceLT,Nat.reduceEqDiff,↓reduceIte]
theorem isame_ok (C:CodeOkC E) {N:Nat} {H:AHeap} {x y:AVal} {l:List Int} (hx:Reads N H x (intVals l)) (hy:Reads N H y (intVals l)) (hl:l.length≤1073741824) :CallS E 9 [x,y] H (.bool true) H:=by
 suffices h:∃ v H',CallS E 9 [x,y] H v H'∧v = .bool true∧H' = H by obtain ⟨v,H',h,rfl,rfl⟩:=h; exact h
 refine CallS.by (R:=fun v H'=>v = .bool true∧H' = H) (t0:=tput (tput .l (some (Pos.ofNat 0)) x) (some (Pos.ofNat 1)) y) (C.s _ rfl) rfl C.f9 rfl ?_
 refine W.seq (W.region ?_)
 simp (maxDischargeDepth:=9) only [auW,auC,auT,lget,BEq.rfl,beq_self_eq_true,decide_true,decide_false,reduceCtorEq,Nat.reduceLT,Nat.reduceEqDiff,↓reduceIte,g9r0]
 refine W.seq (W.seq (W.region ?_))
 simp (maxDischargeDepth:=9) only [auW,auC,auT,lget,BEq.rfl,beq_self_eq_true,decide_true,decide_false,reduceCtorEq,Nat.reduceLT,Nat.reduceEqDiff,↓reduceIte,g9r1,(IReads.fLen hx),(IReads.fLen hy)]
 refine W.cond_false (by simp [AOpnd.ev,tget_puts]) (W.skip ?_)
 simp only [andThen]
 refine W.seq (W.seq (W.region ?_))
 simp (maxDischargeDepth:=9) only [auW,auC,auT,lget,BEq.rfl,beq_self_eq_true,decide_true,decide_false,reduceCtorEq,Nat.reduceLT,Nat.reduceEqDiff,↓reduceIte,g9r3]
 refine W.block (W.mono (isame_loop hx hy hl l.length _ _ ⟨0,by omega,?_,?_,?_,rfl⟩) ?_)
 ·simp only [tget_puts,Nat.reduceLT,Nat.reduceEqDiff,↓reduceIte]
 ·simp only [tget_puts,Nat.reduceLT,Nat.reduceEqDiff,↓reduceIte]
 ·simp only [tget_puts,Nat.reduceLT,Nat.reduceEqDiff,↓reduceIte]
 rintro e ⟨t',ds⟩ H' ⟨rfl,hd,rfl⟩
 have hd:ds = []:=hd
 subst hd
 simp only [andThen,inBlock,beq_t]
 refine W.seq (W.region ?_)
 simp (maxDischargeDepth:=9) only [auW,auC,auT,lget,BEq.rfl,beq_self_eq_true,decide_true,decide_false,reduceCtorEq,Nat.reduceLT,Nat.reduceEqDiff,↓reduceIte,g9r9]
 refine W.ret ⟨.inr rfl,rfl,.bool true,?_,rfl,rfl⟩
 simp [resultA,g9,tget_puts]
end
end Go.Am
end
