/- Part of the proof: AmH0, AmH1, AmH2, AmH3, AmH4. -/
import Derived.Test.YtaogphcjlkeakaaGreatDoorAm25
import Derived.Test.YtaogphcjlkeakaaGreatDoorFn1
import Derived.Test.YtaogphcjlkeakaaGreatDoorGr1
import Derived.Test.YtaogphcjlkeakaaGreatDoorNet1
set_option linter.unusedSimpArgs false
set_option linter.unusedVariables false
section
namespace Go.Am
open Go
section
variable {E:Env} {ds:List ADef} {d:Option Pos} {t:PT AVal} {H:AHeap} {ld:List ADraw} {seen:List Seen} {Q:PT AVal→AHeap→Prop}
def AgainK (a:Nat) (H:AHeap) (l:List Seen) (K:List Seen→Prop) :Prop:=∃ l',again a H l = some l'∧K l'
theorem againK_nil {a:Nat} {K:List Seen→Prop} (k:K []) :AgainK a H [] K:=⟨[],rfl,k⟩
theorem againK_skip {a b:Nat} {t':PT AVal} {op:AOp} {v:AVal} {l:List Seen} {K:List Seen→Prop} (h:Nat.beq (Nat.land a b) 0 = false) (k:AgainK a H l K) :AgainK a H (⟨t',op,v,b⟩ :: l) K:=by
 obtain ⟨l',h1,h2⟩:=k
 exact ⟨l',by simp only [again,h]; exact h1,h2⟩
theorem againK_keep {a b:Nat} {t':PT AVal} {op:AOp} {v:AVal} {l:List Seen} {K:List Seen→Prop} (h:Nat.beq (Nat.land a b) 0 = true) (hq:quiet t' H op = some v) (hs:same v v = true) (k:AgainK a H l (fun l'=>K (⟨t',op,v,b⟩ :: l'))) :AgainK a H (⟨t',op,v,b⟩ :: l) K:=by
 obtain ⟨l',h1,h2⟩:=k
 exact ⟨_,by simp only [again,h,hq,hs,h1],h2⟩
theorem same_bool (b:Bool) :same (.bool b) (.bool b) = true:=by simp [same]
theorem same_ptr (b:Pos) (o:Nat) :same (.ptr b o) (.ptr b o) = true:=by simp [same,Pos.beq_eq.2 rfl]
theorem same_sl (b:Pos) (o l c s:Nat) :same (.sl b o l c s) (.sl b o l c s) = true:=by simp [same,Pos.beq_eq.2 rfl]
theorem same_int (z:Int) :same (.int .i64 z) (.int .i64 z) = true:=by
 have:kbeq .i64 .i64 = true:=rfl
 simp only [same,this]
 rw [eqI_eq]; simp
theorem same_snil:same .snil .snil = true:=rfl
theorem same_pnil:same .pnil .pnil = true:=rfl
theorem sames:type_of% (And.intro @same_bool (And.intro @same_ptr (And.intro @same_sl (And.intro @same_int (And.intro @same_snil @same_pnil))))):=And.intro @same_bool (And.intro @same_ptr (And.intro @same_sl (And.intro @same_int (And.intro @same_snil @same_pnil))))
theorem auQ:type_of% (And.intro @q_move (And.intro @q_nilCheck (And.intro @q_fieldAddr (And.intro @q_load1 (And.intro @q_idxA (And.intro @q_idxS @q_len)))))):=And.intro @q_move (And.intro @q_nilCheck (And.intro @q_fieldAddr (And.intro @q_load1 (And.intro @q_idxA (And.intro @q_idxS @q_len)))))
theorem wd_buildSliceE {z vs:List AVal} {n:Nat} {ps:List (Nat × Nat × AOpnd)} {i₀ b₀ m₀ h₀:Nat} (h:fillA z t ps = some vs) (k:WD E ds ld (tput t d (.sl H.nx 0 n n 0)) (H.new (.cells vs false false)).2 seen Q) :WD E ds (⟨⟨d,.buildSlice z n ps,none⟩,1,i₀,b₀,m₀,h₀⟩ :: ld) t H seen Q :=
 (wd_new (by simp only [write,h]; rfl)).2 k
theorem wd_buildE {z vs:List AVal} {ps:List (Nat × Nat × AOpnd)} {i₀ b₀ m₀ h₀:Nat} (h:fillA z t ps = some vs) (k:WD E ds ld (tput t d (.agg vs)) H (⟨t,.build z ps,.agg vs,b₀⟩ :: seen) Q) :WD E ds (⟨⟨d,.build z ps,none⟩,0,i₀,b₀,m₀,h₀⟩ :: ld) t H seen Q :=
 (wd_quiet (by rw [q_build,h]; rfl)).2 k
theorem wd_appendK {sz by':Nat} {s x:AOpnd} {sv xv v:AVal} {H':AHeap} {i₀ b₀ m₀ h₀:Nat} (h:appendA H sz by' sv xv = some (v,H')) (hs:s.ev t = sv) (hx:x.ev t = xv) (k:AgainK h₀ H' seen (fun seen'=>WD E ds ld (tput t d v) H' seen' Q)) :WD E ds (⟨⟨d,.append sz by' s x,none⟩,2,i₀,b₀,m₀,h₀⟩ :: ld) t H seen Q:=by
 obtain ⟨l',h1,h2⟩:=k
 exact WD.loud (o:=⟨d,.append sz by' s x,none⟩) rfl ⟨0,fun _ _=>by simp only [execA,write,hs,hx,h]⟩ h1 h2
theorem wd_storeK {n:Nat} {x y:AOpnd} {b:Pos} {o:Nat} {vs:List AVal} {H':AHeap} {i₀ b₀ m₀ h₀:Nat} (hx:x.ev t = .ptr b o) (hy:vcellsO (y.ev t) = some vs) (hn:Nat.beq vs.length n = true) (h:hstoreN H b o vs = some H') (k:AgainK h₀ H' seen (fun seen'=>WD E ds ld (tput t d .undef) H' seen' Q)) :WD E ds (⟨⟨d,.store n x y,none⟩,2,i₀,b₀,m₀,h₀⟩ :: ld) t H seen Q:=by
 obtain ⟨l',h1,h2⟩:=k
 exact wd_store hx hy hn h h1 h2
theorem wd_callK {f:FuncId} {args:List AOpnd} {vs:List AVal} {v:AVal} {H':AHeap} {i₀ b₀ m₀ h₀:Nat} (h:CallS E f vs H v H') (ha:evs t args = vs) (k:AgainK h₀ H' seen (fun seen'=>WD E ds ld (tput t d v) H' seen' Q)) :WD E ds (⟨⟨d,.callF f args,none⟩,2,i₀,b₀,m₀,h₀⟩ :: ld) t H seen Q:=by
 obtain ⟨l',h1,h2⟩:=k
 exact wd_callE h ha h1 h2
end
end Go.Am
end

section
namespace Go.Am
open Go Go.RowKit
theorem rem_ok (a:Int) {n:Nat} (hn:0 < n) :binOpA .rem (.int .i64 a) (.int .i64 (.ofNat n)) = some (.int .i64 (Int.tmod a n)):=by
 show (match isZero (.ofNat n) with | true=>none | false=>some (AVal.int .i64 (remI a (.ofNat n)))) = _
 have hz:isZero (.ofNat n) = false:=by
  obtain ⟨m,rfl⟩ :∃ m,n = m + 1:=⟨n - 1,by omega⟩
  rfl
 rw [hz]
 simp only
 congr 2
 cases a with
 | ofNat a=>show Int.ofNat (Nat.mod a n) = _; rfl
 | negSucc a=>rfl
theorem index_ok (a:Int) {n:Nat} (hn:0 < n) (hs:n≤1073741824) :∃ j,j < n∧binOpA .add (.int .i64 (Int.tmod a n)) (.int .i64 (.ofNat n)) = some (.int .i64 (Int.tmod a n + n))∧Int.tmod (Int.tmod a n + n) n = .ofNat j:=by
 have h1:Int.tmod a n < n:=Int.tmod_lt_of_pos a (by omega)
 have h2:-(n:Int) < Int.tmod a n:=by
  have:=Int.lt_tmod_of_pos a (b:=(n:Int)) (by omega)
  omega
 obtain ⟨q,hq⟩ :∃ q:Nat,Int.tmod a n + n = .ofNat q:=⟨(Int.tmod a n + n).toNat,(Int.toNat_of_nonneg (by omega)).symm⟩
 refine ⟨q % n,Nat.mod_lt _ hn,?_,by rw [hq]; rfl⟩
 show some (AVal.int .i64 (wrapI .i64 (addI (Int.tmod a n) (.ofNat n)))) = _
 have ha:addI (Int.tmod a n) (.ofNat n) = Int.tmod a n + n:=by
  cases Int.tmod a n <;> rfl
 rw [ha,hq]
 have:Nat.ble q 9223372036854775807 = true:=ble_t (by have:(q:Int) = Int.tmod a n + n:=hq.symm; omega)
 simp only [wrapI,this]
section
variable {E:Env}
theorem num_ok (C:CodeOkC E) {H:AHeap} (z:Int) :CallS E 14 [.int .i64 z] H (.int .i64 z) H:=by
 suffices h:∃ v H',CallS E 14 [.int .i64 z] H v H'∧v = .int .i64 z∧H' = H by obtain ⟨v,H',h,rfl,rfl⟩:=h; exact h
 refine CallS.by (R:=fun v H'=>v = .int .i64 z∧H' = H) (t0:=tput .l (some (Pos.ofNat 0)) (.int .i64 z)) (C.s _ rfl) rfl C.f14 rfl ?_
 refine W.seq (W.region ?_)
 simp (maxDischargeDepth:=9) only [auW,auC,auT,lget,BEq.rfl,beq_self_eq_true,decide_true,decide_false,reduceCtorEq,Nat.reduceLT,Nat.reduceEqDiff,↓reduceIte,g14r0]
 refine W.seq (W.region ?_)
 simp (maxDischargeDepth:=9) only [auW,auC,auT,lget,BEq.rfl,beq_self_eq_true,decide_true,decide_false,reduceCtorEq,Nat.reduceLT,Nat.reduceEqDiff,↓reduceIte,g14r1]
 refine W.ret ⟨.inr rfl,rfl,.int .i64 z,?_,rfl,rfl⟩
 simp [resultA,g14,tget_puts]
theorem in_ok (C:CodeOkC E) {H:AHeap} (a:Int) {n:Nat} (hn:0 < n) (hs:n≤1000) :∃ j,j < n∧CallS E 23 [.int .i64 a,.int .i64 (.ofNat n)] H (.int .i64 (.ofNat j)) H:=by
 obtain ⟨j,hj,e1,e2⟩:=index_ok a hn (by omega)
 refine ⟨j,hj,?_⟩
 have e3:binOpA .rem (.int .i64 (Int.tmod a n + n)) (.int .i64 (.ofNat n)) = some (.int .i64 (.ofNat j)):=by rw [rem_ok _ hn,e2]
 suffices h:∃ v H',CallS E 23 [.int .i64 a,.int .i64 (.ofNat n)] H v H'∧v = .int .i64 (.ofNat j)∧H' = H by obtain ⟨v,H',h,rfl,rfl⟩:=h; exact h
 refine CallS.by (R:=fun v H'=>v = .int .i64 (.ofNat j)∧H' = H) (t0:=tput (tput .l (some (Pos.ofNat 0)) (.int .i64 a)) (some (Pos.ofNat 1)) (.int .i64 (.ofNat n))) (C.s _ rfl) rfl C.f23 rfl ?_
 refine W.seq (W.region ?_)
 simp (maxDischargeDepth:=9) only [auW,auC,auT,lget,BEq.rfl,beq_self_eq_true,decide_true,decide_false,reduceCtorEq,Nat.reduceLT,Nat.reduceEqDiff,↓reduceIte,g23r0]
 refine W.seq (W.region ?_)
 simp (maxDischargeDepth:=9) only [auW,auC,auT,lget,BEq.rfl,beq_self_eq_true,decide_true,decide_false,reduceCtorEq,Nat.reduceLT,Nat.reduceEqDiff,↓reduceIte,g23r1,rem_ok a hn,e1,e3]
 refine W.ret ⟨.inr rfl,rfl,.int .i64 (.ofNat j),?_,rfl,rfl⟩
 simp [resultA,g23,tget_puts]
theorem is_ok (s34:PT.get (Pos.ofNat 34) E.sums = none) (f34:PT.get (Pos.ofNat 34) E.fns = some g34) {H:AHeap} {j n:Nat} (hj:j < n) :CallS E 34 [.int .i64 (.ofNat j),.int .i64 (.ofNat n)] H (.bool true) H:=by
 suffices h:∃ v H',CallS E 34 [.int .i64 (.ofNat j),.int .i64 (.ofNat n)] H v H'∧v = .bool true∧H' = H by obtain ⟨v,H',h,rfl,rfl⟩:=h; exact h
 refine CallS.by (R:=fun v H'=>v = .bool true∧H' = H) (t0:=tput (tput .l (some (Pos.ofNat 0)) (.int .i64 (.ofNat j))) (some (Pos.ofNat 1)) (.int .i64 (.ofNat n))) s34 rfl f34 rfl ?_
 refine W.seq (W.region ?_)
 simp (maxDischargeDepth:=9) only [auW,auC,auT,lget,BEq.rfl,beq_self_eq_true,decide_true,decide_false,reduceCtorEq,Nat.reduceLT,Nat.reduceEqDiff,↓reduceIte,g34r0]
 refine W.seq (W.region ?_)
 simp (maxDischargeDepth:=9) only [auW,auC,auT,lget,BEq.rfl,beq_self_eq_true,decide_true,decide_false,reduceCtorEq,Nat.reduceLT,Nat.reduceEqDiff,↓reduceIte,g34r1,Nat.zero_le,hj]
 refine W.ret ⟨.inr rfl,rfl,.bool true,?_,rfl,rfl⟩
 simp [resultA,g34,tget_puts]
theorem key_ok (s35:PT.get (Pos.ofNat 35) E.sums = none) (f35:PT.get (Pos.ofNat 35) E.fns = some g35) {H:AHeap} (a b:Int) (g:Bool) :∃ H',CallS E 35 [.int .i64 a,.int .i64 b] H (entT (normT (a,b,g))).1 H'∧Keep H.nx.toNat H H':=by
 suffices h:∃ v H',CallS E 35 [.int .i64 a,.int .i64 b] H v H'∧v = (entT (normT (a,b,g))).1∧Keep H.nx.toNat H H' by obtain ⟨v,H',h,rfl,h2⟩:=h; exact ⟨H',h,h2⟩
 refine CallS.by (R:=fun v H'=>v = (entT (normT (a,b,g))).1∧Keep H.nx.toNat H H') (t0:=tput (tput .l (some (Pos.ofNat 0)) (.int .i64 a)) (some (Pos.ofNat 1)) (.int .i64 b)) s35 rfl f35 rfl ?_
 refine W.seq (W.region ?_)
 simp (maxDischargeDepth:=9) only [auW,auC,auT,lget,BEq.rfl,beq_self_eq_true,decide_true,decide_false,reduceCtorEq,Nat.reduceLT,Nat.reduceEqDiff,↓reduceIte,g35r0]
 have hst:hstoreN (H.new (.cells [.int .i64 (.ofNat 0),.int .i64 (.ofNat 0)] false false)).2 H.nx 0 [.int .i64 (minI a b),.int .i64 (maxI a b)] = some ((H.new (.cells [.int .i64 (.ofNat 0),.int .i64 (.ofNat 0)] false false)).2.upd H.nx (.cells [.int .i64 (minI a b),.int .i64 (maxI a b)] false false)):=by
  unfold hstoreN
  rw [get_new]
  rfl
 simp only [andThen]
 refine W.seq (W.region ?_)
 simp (maxDischargeDepth:=9) only [auW,auC,auT,lget,BEq.rfl,beq_self_eq_true,decide_true,decide_false,reduceCtorEq,Nat.reduceLT,Nat.reduceEqDiff,↓reduceIte,g35r1,mm_min,mm_max]
 refine wo_buildE (vs:=[.int .i64 (minI a b),.int .i64 (maxI a b)]) (by simp [fillA,AOpnd.ev,tget_puts,vcellsO,lput,lover]) ?_
 refine wo_store (b:=H.nx) (o:=0) (vs:=[.int .i64 (minI a b),.int .i64 (maxI a b)]) (by simp only [auT,Nat.reduceLT,Nat.reduceEqDiff,↓reduceIte]) (by simp only [auT,Nat.reduceLT,Nat.reduceEqDiff,↓reduceIte]; rfl) rfl hst ?_
 simp (maxDischargeDepth:=9) only [auW,auC,auT,lget,BEq.rfl,beq_self_eq_true,decide_true,decide_false,reduceCtorEq,Nat.reduceLT,Nat.reduceEqDiff,↓reduceIte]
 simp only [andThen]
 refine W.ret ⟨.inr rfl,rfl,_,?_,rfl,keep_new.trans (keep_upd (Nat.le_refl _))⟩
 have hl:hloadN ((H.new (.cells [.int .i64 (.ofNat 0),.int .i64 (.ofNat 0)] false false)).2.upd H.nx (.cells [.int .i64 (minI a b),.int .i64 (maxI a b)] false false)) H.nx 0 2 = some [.int .i64 (minI a b),.int .i64 (maxI a b)]:=by
  unfold hloadN
  rw [get_upd]
  rfl
 generalize ((H.new (.cells [.int .i64 (.ofNat 0),.int .i64 (.ofNat 0)] false false)).2.upd H.nx (.cells [.int .i64 (minI a b),.int .i64 (maxI a b)] false false)) = X at hl ⊢
 simp [resultA,g35,tget_puts,hl,entT,normT]
end
end Go.Am
end

section
namespace Go.Am
open Go Go.RowKit
structure RowsI (H:AHeap) (g m tb:Pos) (n:Nat) (vs:List AVal) (ls:Nat→List Int) :Prop where
 og:PT.get g H.t = some (.cells [.int .i64 (.ofNat n),.map m,.sl tb 0 n n 0] false false)
 ot:PT.get tb H.t = some (.cells vs false false)
 ne:g ≠ tb
 len:vs.length = n
 row:∀ (i:Nat) (v:AVal),vs[i]? = some v→RowAt H v (ls i)∧∀ b,rowBlk v = some b→b.toNat < H.nx.toNat
 sep:∀ (i j:Nat) (v u:AVal) (b:Pos),i ≠ j→vs[i]? = some v→vs[j]? = some u→rowBlk v = some b→rowBlk u ≠ some b
 gl:g.toNat < H.nx.toNat
 tl:tb.toNat < H.nx.toNat
theorem RowAt.blk {H:AHeap} {v:AVal} {l:List Int} (h:RowAt H v l) {b:Pos} (hb:rowBlk v = some b) :PT.get b H.t = some (.cells (intVals l) true false):=by
 rcases h with ⟨rfl,_⟩ | ⟨c,a,m,rfl,rfl,hc⟩
 ·cases hb
 ·cases hb; exact hc
theorem RowAt.mono {H H':AHeap} {v:AVal} {l:List Int} (h:RowAt H v l) (k:∀ b,rowBlk v = some b→PT.get b H'.t = PT.get b H.t) :RowAt H' v l:=by
 rcases h with h | ⟨b,a,m,rfl,rfl,hb⟩
 ·exact .inl h
 ·exact .inr ⟨b,a,m,rfl,rfl,by rw [k b rfl]; exact hb⟩
theorem RowsI.keep {H H':AHeap} {g m tb:Pos} {n:Nat} {vs:List AVal} {ls:Nat→List Int} (h:RowsI H g m tb n vs ls) {K:Nat} (k:Keep K H H') (hK:H.nx.toNat≤K) :RowsI H' g m tb n vs ls:=by
 have hx:=k.nx
 have hg:=h.gl
 have ht:=h.tl
 refine ⟨by rw [k.get g (by omega)]; exact h.og,by rw [k.get tb (by omega)]; exact h.ot,h.ne,h.len,fun i v hv=>?_,h.sep,by omega,by omega⟩
 obtain ⟨h1,h2⟩:=h.row i v hv
 exact ⟨h1.mono fun b hb=>k.get b (by have:=h2 b hb; omega),fun b hb=>by have:=h2 b hb; omega⟩
theorem RowsI.raw {H:AHeap} {g m tb p:Pos} {n:Nat} {vs:List AVal} {ls:Nat→List Int} (h:RowsI H g m tb n vs ls) {x y:Obj} (hp:PT.get p H.t = some (.raw x)) :RowsI (H.upd p (.raw y)) g m tb n vs ls:=by
 refine ⟨get_upd_raw h.og (by simp) hp,get_upd_raw h.ot (by simp) hp,h.ne,h.len,fun i v hv=>?_,h.sep,h.gl,h.tl⟩
 obtain ⟨h1,h2⟩:=h.row i v hv
 refine ⟨h1.mono fun b hb=>?_,h2⟩
 have:=h1.blk hb
 rw [this]
 exact get_upd_raw this (by simp) hp
theorem set_list (vs:List AVal) (i:Nat) (hi:i < vs.length) (v:AVal) :lput vs i [v] = some (vs.set i v):=by
 rw [lput_of _ _ _ (by simp; omega)]
 simp [List.set_eq_take_append_cons_drop,hi]
theorem RowsI.push {H:AHeap} {g m tb:Pos} {n:Nat} {vs:List AVal} {ls:Nat→List Int} (h:RowsI H g m tb n vs ls) {i:Nat} {v:AVal} (hv:vs[i]? = some v) (z:Int) (hl:(ls i).length≤10000000) :
  ∃ v' H2 H3,appendA (H.new (.cells [.int .i64 z] false false)).2 1 8 v (.sl H.nx 0 1 1 0) = some (v',H2)∧hstoreN H2 tb i [v'] = some H3∧isScal v' = true ∧
   RowsI H3 g m tb n (vs.set i v') (fun j=>if j = i then ls i ++ [z] else ls j)∧H.nx.toNat≤H3.nx.toNat ∧
   (∀ p,p.toNat < H.nx.toNat→p ≠ tb→(∀ l,PT.get p H.t ≠ some (.cells l true false))→PT.get p H3.t = PT.get p H.t) ∧
   (∀ p,p.toNat < H.nx.toNat→(∀ l,PT.get p H.t ≠ some (.cells l true false))→PT.get p H2.t = PT.get p H.t):=by
 have hi:i < vs.length:=(List.getElem?_eq_some_iff.1 hv).1
 obtain ⟨r1,r2⟩:=h.row i v hv
 have n1:(H.new (.cells [.int .i64 z] false false)).2.nx.toNat = H.nx.toNat + 1:=nx_new
 have k1:Keep H.nx.toNat H (H.new (.cells [.int .i64 z] false false)).2:=keep_new
 have hx:srcCells (H.new (.cells [.int .i64 z] false false)).2 1 (.sl H.nx 0 1 1 0) = some (1,[.int .i64 z]):=src_new (l:=[.int .i64 z])
 generalize (H.new (.cells [.int .i64 z] false false)).2 = H1 at n1 k1 hx ⊢
 obtain ⟨H2,a1,a2,a3,a4⟩:=append_row (r1.mono fun b hb=>k1.get b (r2 b hb)) (fun b hb=>by have:=r2 b hb; omega) hx hl
 have hrow:∀ {b:Pos},rowBlk v = some b→PT.get b H.t = some (.cells (intVals (ls i)) true false):=r1.blk
 have htl:=h.tl
 have hgl:=h.gl
 have ne1:∀ p:Pos,p.toNat < H.nx.toNat→p ≠ H1.nx:=fun p hp e=>by rw [e] at hp; omega
 have h2:∀ p,p.toNat < H.nx.toNat→rowBlk v ≠ some p→PT.get p H2.t = PT.get p H.t:=fun p hp hb=>by rw [a3 p (ne1 p hp) hb,k1.get p hp]
 have htb2:PT.get tb H2.t = some (.cells vs false false):=by
  rw [h2 tb htl (fun e=>by have:=hrow e; rw [h.ot] at this; cases this)]
  exact h.ot
 generalize hv':AVal.sl H1.nx 0 (ls i ++ [z]).length (ls i ++ [z]).length 1 = v' at *
 have hst:hstoreN H2 tb i [v'] = some (H2.upd tb (.cells (vs.set i v') false false)):=by
  unfold hstoreN
  rw [htb2]
  have:allScal [v'] = true:=by rw [← hv']; rfl
  simp only [this,set_list vs i hi v']
 have hu:∀ p,p ≠ tb→PT.get p (H2.upd tb (.cells (vs.set i v') false false)).t = PT.get p H2.t:=fun p hp=>get_upd_other (fun e=>hp e.symm)
 have hv1:rowBlk v' = some H1.nx:=by rw [← hv']; rfl
 have htn:H1.nx ≠ tb:=fun e=>ne1 tb htl e.symm
 have hother:∀ (j:Nat) (u:AVal),j ≠ i→vs[j]? = some u→∀ b,rowBlk u = some b→b ≠ tb∧b.toNat < H.nx.toNat∧PT.get b (H2.upd tb (.cells (vs.set i v') false false)).t = PT.get b H.t:=by
  intro j u hj hu' b hb
  obtain ⟨q1,q2⟩:=h.row j u hu'
  have hbt:b ≠ tb:=fun e=>by have:=q1.blk hb; rw [e,h.ot] at this; cases this
  exact ⟨hbt,q2 b hb,by rw [hu b hbt]; exact h2 b (q2 b hb) (h.sep j i u v b hj hu' hv hb)⟩
 have hn3:(H2.upd tb (.cells (vs.set i v') false false)).nx.toNat = H.nx.toNat + 2:=by show H2.nx.toNat = _; omega
 refine ⟨v',H2,_,a1,hst,by rw [← hv']; rfl,⟨?_,get_upd,h.ne,by simp [h.len],fun j u hju=>?_,fun j k u w b hjk hju hkw hb=>?_,by omega,by omega⟩,by omega,fun p hp hpt hpl=>?_,fun p hp hpl=>h2 p hp (fun e=>hpl _ (hrow e))⟩
 ·rw [hu g h.ne,h2 g hgl (fun e=>by have:=hrow e; rw [h.og] at this; simp at this)]
  exact h.og
 ·by_cases hj:j = i
  ·subst hj
   rw [List.getElem?_set_self hi] at hju
   cases hju
   simp only [if_true]
   refine ⟨.inr ⟨H1.nx,(ls j ++ [z]).head (by simp),(ls j ++ [z]).tail,(List.cons_head_tail _).symm,hv'.symm,by rw [hu H1.nx htn]; exact a2⟩,fun b hb=>?_⟩
   rw [hv1] at hb
   cases hb
   omega
  ·rw [List.getElem?_set_ne (fun e=>hj e.symm)] at hju
   simp only [if_neg hj]
   have ho:=hother j u hj hju
   refine ⟨(h.row j u hju).1.mono fun b hb=>(ho b hb).2.2,fun b hb=>by have:=(ho b hb).2.1; omega⟩
 ·by_cases hj:j = i
  ·subst hj
   rw [List.getElem?_set_self hi] at hju
   cases hju
   rw [hv1] at hb
   cases hb
   rw [List.getElem?_set_ne hjk] at hkw
   intro hw
   exact ne1 _ ((h.row k w hkw).2 _ hw) rfl
  ·rw [List.getElem?_set_ne (fun e=>hj e.symm)] at hju
   by_cases hk:k = i
   ·subst hk
    rw [List.getElem?_set_self hi] at hkw
    cases hkw
    rw [hv1]
    intro e
    cases e
    exact ne1 _ ((h.row j u hju).2 _ hb) rfl
   ·rw [List.getElem?_set_ne (fun e=>hk e.symm)] at hkw
    exact h.sep j k u w b hjk hju hkw hb
 ·rw [hu p hpt,h2 p hp (fun e=>hpl _ (hrow e))]
theorem RowsI.sort {H:AHeap} {g m tb:Pos} {n:Nat} {vs:List AVal} {ls:Nat→List Int} (h:RowsI H g m tb n vs ls) {i:Nat} {v:AVal} (hv:vs[i]? = some v) (hl:(ls i).length≤1000000000) :
  ∃ H',sSortO [v] H = some (.tup [],H')∧RowsI H' g m tb n vs (fun j=>if j = i then sortZ (ls i) else ls j)∧H'.nx = H.nx:=by
 obtain ⟨r1,r2⟩:=h.row i v hv
 rcases r1 with ⟨rfl,hnil⟩ | ⟨b,a,r,hlr,rfl,hb⟩
 ·refine ⟨H,rfl,⟨h.og,h.ot,h.ne,h.len,fun j u hju=>?_,h.sep,h.gl,h.tl⟩,rfl⟩
  by_cases hj:j = i
  ·subst hj
   rw [hv] at hju
   cases hju
   simp only [if_true]
   rw [hnil]
   exact ⟨.inl ⟨rfl,rfl⟩,r2⟩
  ·simp only [if_neg hj]
   exact h.row j u hju
 ·refine ⟨_,sortO_run hb hl,⟨?_,?_,h.ne,h.len,fun j u hju=>?_,h.sep,h.gl,h.tl⟩,rfl⟩
  ·rw [get_upd_other (fun e=>by rw [e,h.og] at hb; simp at hb)]; exact h.og
  ·rw [get_upd_other (fun e=>by rw [e,h.ot] at hb; cases hb)]; exact h.ot
  ·by_cases hj:j = i
   ·subst hj
    rw [hv] at hju
    cases hju
    simp only [if_true]
    have hsl:=sortZ_length (ls j)
    refine ⟨.inr ⟨b,(sortZ (ls j)).head (fun e=>?_),(sortZ (ls j)).tail,(List.cons_head_tail _).symm,by rw [hsl],get_upd⟩,r2⟩
    rw [e,hlr] at hsl
    simp at hsl
   ·simp only [if_neg hj]
    obtain ⟨q1,q2⟩:=h.row j u hju
    refine ⟨q1.mono fun c hc=>get_upd_other (fun e=>?_),q2⟩
    subst e
    exact h.sep i j _ u b (fun e=>hj e.symm) hv hju rfl hc
theorem rows_list {H:AHeap} :∀ {vs:List AVal} {ls:List (List Int)},vs.length = ls.length→(∀ (i:Nat) (v:AVal) (l:List Int),vs[i]? = some v→ls[i]? = some l→RowAt H v l)→(∀ (i j:Nat) (v u:AVal) (b:Pos),i ≠ j→vs[i]? = some v→vs[j]? = some u→rowBlk v = some b→rowBlk u ≠ some b)→RowsAt H vs ls
 | [],[],_,_,_=>trivial
 | [],_ :: _,h,_,_=>by cases h
 | _ :: _,[],h,_,_=>by cases h
 | v :: vs,l :: ls,h,h1,h2=>by
  refine ⟨h1 0 v l rfl rfl,fun b hb u hu=>?_,rows_list (by simpa using h) (fun i v l e1 e2=>h1 (i + 1) v l (by simpa using e1) (by simpa using e2)) (fun i j v u b hij e1 e2 hb=>h2 (i + 1) (j + 1) v u b (by omega) (by simpa using e1) (by simpa using e2) hb)⟩
  obtain ⟨i,hi,rfl⟩:=List.getElem_of_mem hu
  exact h2 0 (i + 1) v _ b (by omega) rfl (by simp [hi]) hb
theorem RowsI.graph {H:AHeap} {g m tb:Pos} {n:Nat} {vs:List AVal} {es:List Trp} (h:RowsI H g m tb n vs (fun i=>rowZ es (Int.ofNat i))) :GraphAt H g m n vs (rowsZ n es):=by
 refine ⟨⟨tb,h.og,h.ot⟩,rows_list (by rw [rowsZ_length]; exact h.len) (fun i v l e1 e2=>?_) h.sep,h.len⟩
 have hi:i < n:=by rw [← h.len]; exact (List.getElem?_eq_some_iff.1 e1).1
 rw [rowsZ_get hi] at e2
 cases e2
 exact (h.row i v e1).1
end Go.Am
end

section
namespace Go.Am
open Go Go.RowKit
theorem ent_inj {a b:List Trp} (h:(a.map entT).Perm (b.map entT)) :a.Perm b:=by
 have:∀ l:List Trp,(l.map entT).map (fun p=>match p with | (.agg [.int _ a,.int _ c],.bool g)=>((a,c,g) :Trp) | _=>(0,0,false)) = l:=by
  intro l
  rw [List.map_map]
  conv=>rhs; rw [← List.map_id l]
  exact List.map_congr_left fun x _=>rfl
 have h2:=h.map (fun p=>match p with | (.agg [.int _ a,.int _ c],.bool g)=>((a,c,g) :Trp) | _=>(0,0,false))
 rw [this,this] at h2
 exact h2
theorem nbrs_snoc (u:Int) (t:Trp) :∀ l:List Trp,nbrs u (l ++ [t]) = nbrs u l ++ nbrs u [t]
 | []=>rfl
 | x :: l=>by
  simp only [List.cons_append,nbrs,nbrs_snoc u t l]
  cases eqI x.1 u <;> cases eqI x.2.1 u <;> rfl
theorem nbrs_length (u:Int) :∀ l:List Trp,(nbrs u l).length≤l.length
 | []=>Nat.le_refl _
 | x :: l=>by
  have:=nbrs_length u l
  simp only [nbrs]
  cases eqI x.1 u <;> cases eqI x.2.1 u <;> simp only [List.length_cons] <;> omega
theorem rows_snoc {t:Trp} {i j:Nat} (h1:t.1 = Int.ofNat i) (h2:t.2.1 = Int.ofNat j) (hij:i < j) (l:List Trp) :(fun k=>if k = j then (if j = i then nbrs (Int.ofNat i) l ++ [Int.ofNat j] else nbrs (Int.ofNat j) l) ++ [Int.ofNat i] else (if k = i then nbrs (Int.ofNat i) l ++ [Int.ofNat j] else nbrs (Int.ofNat k) l)) = fun k=>nbrs (Int.ofNat k) (l ++ [t]):=by
 funext k
 rw [nbrs_snoc]
 simp only [nbrs,h1,h2]
 rw [eqI_dec,eqI_dec]
 have hji:¬ j = i:=by omega
 by_cases e1:k = j
 ·subst e1
  have h3:¬ ((i:Int) = (k:Int)):=by omega
  simp [hji,h3]
 ·by_cases e2:k = i
  ·subst e2
   simp [e1]
  ·have h3:¬ ((i:Int) = (k:Int)):=by omega
   have h4:¬ ((j:Int) = (k:Int)):=by omega
   simp [e1,e2,h3,h4]
theorem var2 {H:AHeap} (a b:Int) :∃ H',hstoreN (H.new (.cells [.int .i64 (.ofNat 0),.int .i64 (.ofNat 0)] false false)).2 H.nx 0 [.int .i64 a,.int .i64 b] = some H'∧PT.get H.nx H'.t = some (.cells [.int .i64 a,.int .i64 b] false false)∧Keep H.nx.toNat H H'∧H'.nx = H.nx.succ:=by
 refine ⟨(H.new (.cells [.int .i64 (.ofNat 0),.int .i64 (.ofNat 0)] false false)).2.upd H.nx (.cells [.int .i64 a,.int .i64 b] false false),?_,get_upd,keep_new.trans (keep_upd (Nat.le_refl _)),rfl⟩
 unfold hstoreN
 rw [get_new]
 rfl
theorem idx_row {tb:Pos} {n i:Nat} (h:i < n) :fIdxS 1 (.sl tb 0 n n 0) (.int .i64 (.ofNat i)) = some (.ptr tb (0 + i)):=by
 simp only [fIdxS,natOf,blt_t h]
 simp
section
variable {P:Program} {T:Tys} {E:Env}
theorem of_half1 {i j:Nat} {H:AHeap} {g m tb pe:Pos} {n:Nat} {vs:List AVal} {ls:Nat→List Int} (hG:RowsI H g m tb n vs ls) (hi:i < n) (hj:j < n) (hpe:PT.get pe H.t = some (.cells [.int .i64 (.ofNat i),.int .i64 (.ofNat j)] false false)) (hpl:pe.toNat < H.nx.toNat) {t:PT AVal} (h5:tget t (Pos.ofNat 5) = .ptr g 0) (h6:tget t (Pos.ofNat 6) = .ptr pe 0) (hls:(ls i).length≤10000000) :
  W E (.draw g36d5) none ⟨t,[]⟩ H (fun e a H'=>e = .normal∧a.ds = []∧(∃ vs',RowsI H' g m tb n vs' (fun k=>if k = i then ls i ++ [.ofNat j] else ls k))∧(∀ p,p.toNat < H.nx.toNat→p ≠ tb→(∀ l,PT.get p H.t ≠ some (.cells l true false))→PT.get p H'.t = PT.get p H.t)∧H.nx.toNat≤H'.nx.toNat∧Pres [5,6,16] t a.t):=by
 have og:=hG.og
 have ot:=hG.ot
 obtain ⟨v,hv⟩ :∃ v,vs[i]? = some v:=⟨_,List.getElem?_eq_getElem (by rw [hG.len]; omega)⟩
 have l0:hload H pe (0 + 0) = some (.int .i64 (.ofNat i)):=by rw [hload_at hpe (by simp)]; rfl
 have l1:hload H pe (0 + 1) = some (.int .i64 (.ofNat j)):=by rw [hload_at hpe (by simp)]; rfl
 have g2:hload H g (0 + 2) = some (.sl tb 0 n n 0):=by rw [hload_at og (by simp)]; rfl
 have i0:fIdxA 2 1 (.ptr pe 0) (.int .i64 (.ofNat 0)) = some (.ptr pe (0 + 0)):=rfl
 have i1:fIdxA 2 1 (.ptr pe 0) (.int .i64 (.ofNat 1)) = some (.ptr pe (0 + 1)):=rfl
 have lr:hload H tb (0 + i) = some v:=by
  obtain ⟨h1,h2⟩:=List.getElem?_eq_some_iff.1 hv
  rw [Nat.zero_add,hload_at ot h1,h2]
 obtain ⟨v',H2,H3,a1,a2,a3,a4,a5,a6,a7⟩:=hG.push hv (.ofNat j) hls
 have og2:=a7 g hG.gl (fun l e=>by rw [og] at e; simp at e)
 have pe2:=a7 pe hpl (fun l e=>by rw [hpe] at e; simp at e)
 rw [og] at og2
 rw [hpe] at pe2
 have k0:hload H2 pe (0 + 0) = some (.int .i64 (.ofNat i)):=by rw [hload_at pe2 (by simp)]; rfl
 have k1:hload H2 pe (0 + 1) = some (.int .i64 (.ofNat j)):=by rw [hload_at pe2 (by simp)]; rfl
 have q2:hload H2 g (0 + 2) = some (.sl tb 0 n n 0):=by rw [hload_at og2 (by simp)]; rfl
 refine W.draw ?_
 simp (maxDischargeDepth:=9) only [auD,auC,auT,lget,BEq.rfl,beq_self_eq_true,decide_true,decide_false,reduceCtorEq,Nat.reduceLT,Nat.reduceEqDiff,↓reduceIte,g36d5,h5,h6,g2,i0,i1,l0,l1,idx_row hi,idx_row hj,lr]
 refine wd_buildSliceE (fill1 (v:=.int .i64 (.ofNat j)) (by simp [AOpnd.ev,tget_puts]) rfl) ?_
 refine wd_appendK a1 (by simp only [auT,Nat.reduceLT,Nat.reduceEqDiff,↓reduceIte]) (by simp only [auT,Nat.reduceLT,Nat.reduceEqDiff,↓reduceIte]) ?_
 repeat (first | refine againK_skip rfl ?_ | refine againK_keep rfl (by simp only [auQ,auC,auT,BEq.rfl,Nat.reduceLT,Nat.reduceEqDiff,↓reduceIte,fNilCheck,fFieldAddr,fLoad1,h5,h6,q2,i0,i1,k0,k1]) (by simp only [sames]) ?_ | refine againK_nil ?_)
 try dsimp only
 simp (maxDischargeDepth:=9) only [auD,auC,auT,lget,BEq.rfl,beq_self_eq_true,decide_true,decide_false,reduceCtorEq,Nat.reduceLT,Nat.reduceEqDiff,↓reduceIte,idx_row hi,idx_row hj]
 refine wd_storeK (b:=tb) (o:=0 + i) (vs:=[v']) (by simp only [auT,Nat.reduceLT,Nat.reduceEqDiff,↓reduceIte]) (by simp only [auT,Nat.reduceLT,Nat.reduceEqDiff,↓reduceIte]; exact vcells_scal a3) rfl (by rw [Nat.zero_add]; exact a2) ?_
 repeat (first | refine againK_skip rfl ?_ | refine againK_nil ?_)
 simp (maxDischargeDepth:=9) only [auD,auC,auT,lget,BEq.rfl,beq_self_eq_true,decide_true,decide_false,reduceCtorEq,Nat.reduceLT,Nat.reduceEqDiff,↓reduceIte]
 refine ⟨by trivial,by trivial,⟨_,a4⟩,a6,a5,?_⟩
 try dsimp only
 repeat (first | refine Pres.put ?_ (by decide) (by decide) | exact Pres.refl _ _)
theorem of_half2 {i j:Nat} {H:AHeap} {g m tb pe:Pos} {n:Nat} {vs:List AVal} {ls:Nat→List Int} (hG:RowsI H g m tb n vs ls) (hi:i < n) (hj:j < n) (hpe:PT.get pe H.t = some (.cells [.int .i64 (.ofNat i),.int .i64 (.ofNat j)] false false)) (hpl:pe.toNat < H.nx.toNat) {t:PT AVal} (h5:tget t (Pos.ofNat 5) = .ptr g 0) (h6:tget t (Pos.ofNat 6) = .ptr pe 0) (hls:(ls j).length≤10000000) :
  W E (.draw g36d6) none ⟨t,[]⟩ H (fun e a H'=>e = .normal∧a.ds = []∧(∃ vs',RowsI H' g m tb n vs' (fun k=>if k = j then ls j ++ [.ofNat i] else ls k))∧(∀ p,p.toNat < H.nx.toNat→p ≠ tb→(∀ l,PT.get p H.t ≠ some (.cells l true false))→PT.get p H'.t = PT.get p H.t)∧H.nx.toNat≤H'.nx.toNat∧Pres [5,6,16] t a.t):=by
 have og:=hG.og
 have ot:=hG.ot
 obtain ⟨v,hv⟩ :∃ v,vs[j]? = some v:=⟨_,List.getElem?_eq_getElem (by rw [hG.len]; omega)⟩
 have l0:hload H pe (0 + 0) = some (.int .i64 (.ofNat i)):=by rw [hload_at hpe (by simp)]; rfl
 have l1:hload H pe (0 + 1) = some (.int .i64 (.ofNat j)):=by rw [hload_at hpe (by simp)]; rfl
 have g2:hload H g (0 + 2) = some (.sl tb 0 n n 0):=by rw [hload_at og (by simp)]; rfl
 have i0:fIdxA 2 1 (.ptr pe 0) (.int .i64 (.ofNat 0)) = some (.ptr pe (0 + 0)):=rfl
 have i1:fIdxA 2 1 (.ptr pe 0) (.int .i64 (.ofNat 1)) = some (.ptr pe (0 + 1)):=rfl
 have lr:hload H tb (0 + j) = some v:=by
  obtain ⟨h1,h2⟩:=List.getElem?_eq_some_iff.1 hv
  rw [Nat.zero_add,hload_at ot h1,h2]
 obtain ⟨v',H2,H3,a1,a2,a3,a4,a5,a6,a7⟩:=hG.push hv (.ofNat i) hls
 have og2:=a7 g hG.gl (fun l e=>by rw [og] at e; simp at e)
 have pe2:=a7 pe hpl (fun l e=>by rw [hpe] at e; simp at e)
 rw [og] at og2
 rw [hpe] at pe2
 have k0:hload H2 pe (0 + 0) = some (.int .i64 (.ofNat i)):=by rw [hload_at pe2 (by simp)]; rfl
 have k1:hload H2 pe (0 + 1) = some (.int .i64 (.ofNat j)):=by rw [hload_at pe2 (by simp)]; rfl
 have q2:hload H2 g (0 + 2) = some (.sl tb 0 n n 0):=by rw [hload_at og2 (by simp)]; rfl
 refine W.draw ?_
 simp (maxDischargeDepth:=9) only [auD,auC,auT,lget,BEq.rfl,beq_self_eq_true,decide_true,decide_false,reduceCtorEq,Nat.reduceLT,Nat.reduceEqDiff,↓reduceIte,g36d6,h5,h6,g2,i0,i1,l0,l1,idx_row hi,idx_row hj,lr]
 refine wd_buildSliceE (fill1 (v:=.int .i64 (.ofNat i)) (by simp [AOpnd.ev,tget_puts]) rfl) ?_
 refine wd_appendK a1 (by simp only [auT,Nat.reduceLT,Nat.reduceEqDiff,↓reduceIte]) (by simp only [auT,Nat.reduceLT,Nat.reduceEqDiff,↓reduceIte]) ?_
 repeat (first | refine againK_skip rfl ?_ | refine againK_keep rfl (by simp only [auQ,auC,auT,BEq.rfl,Nat.reduceLT,Nat.reduceEqDiff,↓reduceIte,fNilCheck,fFieldAddr,fLoad1,h5,h6,q2,i0,i1,k0,k1]) (by simp only [sames]) ?_ | refine againK_nil ?_)
 try dsimp only
 simp (maxDischargeDepth:=9) only [auD,auC,auT,lget,BEq.rfl,beq_self_eq_true,decide_true,decide_false,reduceCtorEq,Nat.reduceLT,Nat.reduceEqDiff,↓reduceIte,idx_row hi,idx_row hj]
 refine wd_storeK (b:=tb) (o:=0 + j) (vs:=[v']) (by simp only [auT,Nat.reduceLT,Nat.reduceEqDiff,↓reduceIte]) (by simp only [auT,Nat.reduceLT,Nat.reduceEqDiff,↓reduceIte]; exact vcells_scal a3) rfl (by rw [Nat.zero_add]; exact a2) ?_
 repeat (first | refine againK_skip rfl ?_ | refine againK_nil ?_)
 simp (maxDischargeDepth:=9) only [auD,auC,auT,lget,BEq.rfl,beq_self_eq_true,decide_true,decide_false,reduceCtorEq,Nat.reduceLT,Nat.reduceEqDiff,↓reduceIte]
 refine ⟨by trivial,by trivial,⟨_,a4⟩,a6,a5,?_⟩
 try dsimp only
 repeat (first | refine Pres.put ?_ (by decide) (by decide) | exact Pres.refl _ _)
theorem of_round {y:Trp} {i j:Nat} (hy1:y.1 = .ofNat i) (hy2:y.2.1 = .ofNat j) (hij:i < j) {n:Nat} (hj:j < n) {H:AHeap} {g m tb pr:Pos} {vs:List AVal} {done:List Trp} (hG:RowsI H g m tb n vs (fun k=>nbrs (Int.ofNat k) done)) (hdl:done.length≤1000000) {t:PT AVal} (h5:tget t (Pos.ofNat 5) = .ptr g 0) (h16:tget t (Pos.ofNat 16) = .ptr pr 0)
  (hpr:∃ x,PT.get pr H.t = some (.raw x)) (hm:∃ x,PT.get m H.t = some (.raw x)) (hprl:pr.toNat < H.nx.toNat) (hml:m.toNat < H.nx.toNat) :
  WO E [] [⟨some (Pos.ofNat 20),.extract (.t (Pos.ofNat 19)) 0,none⟩,⟨some (Pos.ofNat 6),.alloc [.int .i64 (.ofNat 0),.int .i64 (.ofNat 0)],none⟩,⟨none,.store 2 (.t (Pos.ofNat 6)) (.t (Pos.ofNat 20)),none⟩] (tput (tput (tput t (some (Pos.ofNat 17)) (.tup [.bool true,(entT y).1,(entT y).2])) (some (Pos.ofNat 18)) (.bool true)) (some (Pos.ofNat 19)) (.tup [(entT y).1,(entT y).2])) H
   (fun t2 H2=>W E (.seq (.draw g36d5) (.draw g36d6)) none ⟨t2,[]⟩ H2 (fun e aa H3=>e = .normal∧aa.ds = []∧((∃ vs',RowsI H3 g m tb n vs' (fun k=>nbrs (Int.ofNat k) (done ++ [y])))∧tget aa.t (Pos.ofNat 5) = .ptr g 0∧H.nx.toNat≤H3.nx.toNat)∧tget aa.t (Pos.ofNat 16) = .ptr pr 0∧PT.get pr H3.t = PT.get pr H.t∧PT.get m H3.t = PT.get m H.t)):=by
 obtain ⟨H1,s1,v1,k1,n1⟩:=var2 (H:=H) y.1 y.2.1
 simp (maxDischargeDepth:=9) only [auW,auC,auT,lget,BEq.rfl,beq_self_eq_true,decide_true,decide_false,reduceCtorEq,Nat.reduceLT,Nat.reduceEqDiff,↓reduceIte,entT]
 refine wo_store (b:=H.nx) (o:=0) (vs:=[.int .i64 y.1,.int .i64 y.2.1]) (by simp only [auT,Nat.reduceLT,Nat.reduceEqDiff,↓reduceIte]) (by simp only [auT,Nat.reduceLT,Nat.reduceEqDiff,↓reduceIte]; rfl) rfl s1 ?_
 simp (maxDischargeDepth:=9) only [auW,auC,auT,lget,BEq.rfl,beq_self_eq_true,decide_true,decide_false,reduceCtorEq,Nat.reduceLT,Nat.reduceEqDiff,↓reduceIte]
 have n1':H1.nx.toNat = H.nx.toNat + 1:=by rw [n1,Pos.toNat_succ]
 have hG1:=hG.keep k1 (Nat.le_refl _)
 have hpt:H.nx ≠ tb:=fun e=>by have:=hG.tl; rw [← e] at this; omega
 rw [hy1,hy2] at v1
 have hl:∀ u:Int,(nbrs u done).length≤1000000:=fun u=>Nat.le_trans (nbrs_length u done) hdl
 refine W.seq (W.mono (of_half1 hG1 (by omega) hj v1 (by omega) (by simp only [tget_puts,Nat.reduceLT,Nat.reduceEqDiff,↓reduceIte]; exact h5) (by simp only [tget_puts,Nat.reduceLT,Nat.reduceEqDiff,↓reduceIte]) (by have:=hl (Int.ofNat i); omega)) ?_)
 rintro e ⟨t',ds⟩ H2 ⟨rfl,hd,⟨vs1,g1⟩,f1,n2,p1⟩
 have hd:ds = []:=hd
 subst hd
 simp only [andThen]
 have v2:PT.get H.nx H2.t = some (.cells [.int .i64 (.ofNat i),.int .i64 (.ofNat j)] false false):=by
  rw [f1 H.nx (by omega) hpt (fun l e=>by rw [v1] at e; simp at e)]
  exact v1
 have t5:tget t' (Pos.ofNat 5) = .ptr g 0:=by rw [p1 5 (by simp)]; simp only [tget_puts,Nat.reduceLT,Nat.reduceEqDiff,↓reduceIte,h5]
 have t6:tget t' (Pos.ofNat 6) = .ptr H.nx 0:=by rw [p1 6 (by simp)]; simp only [tget_puts,Nat.reduceLT,Nat.reduceEqDiff,↓reduceIte]
 have t16:tget t' (Pos.ofNat 16) = .ptr pr 0:=by rw [p1 16 (by simp)]; simp only [tget_puts,Nat.reduceLT,Nat.reduceEqDiff,↓reduceIte,h16]
 refine W.mono (of_half2 g1 (by omega) hj v2 (by omega) t5 t6 (by
  have:¬ j = i:=by omega
  simp only [if_neg this]
  have:=hl (Int.ofNat j); omega)) ?_
 rintro e ⟨t2,ds⟩ H3 ⟨rfl,hd,⟨vs2,g2⟩,f2,n3,p2⟩
 rw [rows_snoc hy1 hy2 hij] at g2
 have hraw:∀ p,p.toNat < H.nx.toNat→(∃ x,PT.get p H.t = some (.raw x))→PT.get p H3.t = PT.get p H.t:=by
  rintro p hp ⟨x,hx⟩
  have hpt:p ≠ tb:=fun e=>by rw [e,hG.ot] at hx; cases hx
  have e1:PT.get p H1.t = some (.raw x):=by rw [k1.get p hp]; exact hx
  have e2:PT.get p H2.t = some (.raw x):=by rw [f1 p (by omega) hpt (fun l e=>by rw [e1] at e; cases e)]; exact e1
  rw [f2 p (by omega) hpt (fun l e=>by rw [e2] at e; cases e),e2,hx]
 exact ⟨rfl,hd,⟨⟨vs2,g2⟩,(p2 5 (by simp)).trans t5,by omega⟩,(p2 16 (by simp)).trans t16,hraw pr hprl hpr,hraw m hml hm⟩
theorem of_sorts' (hs78:PT.get (Pos.ofNat 78) E.sums = some sSortO) {g m tb:Pos} {n:Nat} (hn:n≤1000000) {es done:List Trp} (hel:es.length≤1000000) (hperm:done.Perm es) {ro:Option Pos} :
  ∀ (q:Nat) (t:PT AVal) (H:AHeap),(∃ i vs,i + q = n∧tget t (Pos.ofNat 5) = .ptr g 0∧tget t (Pos.ofNat 62) = .sl tb 0 n n 0∧tget t (Pos.ofNat 63) = .int .i64 (.ofNat n)∧tget t (Pos.ofNat 64) = .int .i64 (.ofNat i)∧RowsI H g m tb n vs (fun k=>if k < i then rowZ es (Int.ofNat k) else nbrs (Int.ofNat k) done)) →
  W E (.loop g36l13) ro ⟨t,[]⟩ H (fun e a H'=>e = .exit 2∧a.ds = []∧tget a.t (Pos.ofNat 5) = .ptr g 0∧∃ vs,RowsI H' g m tb n vs (fun k=>rowZ es (Int.ofNat k))):=by
 refine W.loop_inv (Q:=fun e a H'=>e = .exit 2∧a.ds = []∧tget a.t (Pos.ofNat 5) = .ptr g 0∧∃ vs,RowsI H' g m tb n vs (fun k=>rowZ es (Int.ofNat k))) _ ?_
 rintro q t H ⟨i,vs,hi,h5,h62,h63,h64,hG⟩
 refine W.seq (W.region ?_)
 simp (maxDischargeDepth:=9) only [auW,auC,auT,lget,BEq.rfl,beq_self_eq_true,decide_true,decide_false,reduceCtorEq,Nat.reduceLT,Nat.reduceEqDiff,↓reduceIte,g36r9,h63,h64]
 refine W.seq (W.cond_if (p:=i < n) (by simp [AOpnd.ev,tget_puts]) (fun hlt=>W.skip ?_) (fun hge=>W.exit ?_))
 rotate_left
 ·refine ⟨by trivial,by trivial,by simp only [tget_puts,Nat.reduceLT,Nat.reduceEqDiff,↓reduceIte,h5],vs,⟨hG.og,hG.ot,hG.ne,hG.len,fun k v hv=>?_,hG.sep,hG.gl,hG.tl⟩⟩
  have hk:k < i:=by
   have h1:=(List.getElem?_eq_some_iff.1 hv).1
   rw [hG.len] at h1; omega
  have:=hG.row k v hv
  simp only [if_pos hk] at this
  exact this
 simp only [andThen]
 obtain ⟨v,hv⟩ :∃ v,vs[i]? = some v:=⟨_,List.getElem?_eq_getElem (by rw [hG.len]; omega)⟩
 have ot:=hG.ot
 have lr:hload H tb (0 + i) = some v:=by
  obtain ⟨h1,h2⟩:=List.getElem?_eq_some_iff.1 hv
  rw [Nat.zero_add,hload_at ot h1,h2]
 have hll:=nbrs_length (Int.ofNat i) done
 have hdl:=hperm.length_eq
 obtain ⟨H1,c1,g1,n1⟩:=hG.sort hv (by simp only [Nat.lt_irrefl,if_false]; omega)
 have hc:CallS E 78 [v] H (.tup []) H1:=CallS.sum (by decide) hs78 c1
 refine W.seq (W.block (W.seq (W.region ?_)))
 simp (maxDischargeDepth:=9) only [auW,auC,auT,lget,BEq.rfl,beq_self_eq_true,decide_true,decide_false,reduceCtorEq,Nat.reduceLT,Nat.reduceEqDiff,↓reduceIte,g36r10,h62,h64,idx_row hlt,lr]
 simp only [andThen]
 refine W.region ?_
 simp (maxDischargeDepth:=9) only [auW,auC,auT,lget,BEq.rfl,beq_self_eq_true,decide_true,decide_false,reduceCtorEq,Nat.reduceLT,Nat.reduceEqDiff,↓reduceIte,g36r11]
 refine wo_callE (hc) (by simp only [auT,Nat.reduceLT,Nat.reduceEqDiff,↓reduceIte]) ?_
 simp (maxDischargeDepth:=9) only [auW,auC,auT,lget,BEq.rfl,beq_self_eq_true,decide_true,decide_false,reduceCtorEq,Nat.reduceLT,Nat.reduceEqDiff,↓reduceIte]
 simp only [andThen,inBlock]
 refine W.region ?_
 simp (maxDischargeDepth:=9) only [auW,auC,auT,lget,BEq.rfl,beq_self_eq_true,decide_true,decide_false,reduceCtorEq,Nat.reduceLT,Nat.reduceEqDiff,↓reduceIte,g36r12,h64,b_add (show i + 1≤9223372036854775807 by omega)]
 refine ⟨by trivial,q - 1,by omega,i + 1,vs,by omega,?_,?_,?_,?_,?_⟩
 ·simp only [tget_puts,Nat.reduceLT,Nat.reduceEqDiff,↓reduceIte,h5]
 ·simp only [tget_puts,Nat.reduceLT,Nat.reduceEqDiff,↓reduceIte,h62]
 ·simp only [tget_puts,Nat.reduceLT,Nat.reduceEqDiff,↓reduceIte,h63]
 ·simp only [tget_puts,Nat.reduceLT,Nat.reduceEqDiff,↓reduceIte]
 ·have:(fun k=>if k = i then sortZ (if i < i then rowZ es (Int.ofNat i) else nbrs (Int.ofNat i) done) else if k < i then rowZ es (Int.ofNat k) else nbrs (Int.ofNat k) done) = fun k=>if k < i + 1 then rowZ es (Int.ofNat k) else nbrs (Int.ofNat k) done:=by
   funext k
   by_cases h1:k = i
   ·subst h1
    simp only [Nat.lt_irrefl,if_false,if_true,Nat.lt_succ_self]
    exact rowZ_perm hperm
   ·by_cases h2:k < i
    ·have h3:k < i + 1:=by omega
     simp [h1,h2,h3]
    ·have h3:¬ k < i + 1:=by omega
     simp [h1,h2,h3]
  rw [this] at g1
  exact g1
end
end Go.Am
end

section
namespace Go.Am
open Go Go.RowKit
theorem repl_nil:∀ (n i:Nat) (v:AVal),(repl [.snil] n)[i]? = some v→v = .snil
 | 0,i,v,h=>by simp [repl] at h
 | n + 1,0,v,h=>by simp [repl] at h; exact h.symm
 | n + 1,i + 1,v,h=>repl_nil n i v (by simpa [repl] using h)
section
variable {P:Program} {T:Tys} {E:Env}
theorem of_calls (hT:TOk2 T P) (hE:∀ B,EnvOk P T B E) (hm:P.follows .mixedOrders = true) (hs78:PT.get (Pos.ofNat 78) E.sums = some sSortO) {f:FuncId} {fn:Func} (hf:P.funcs[f]? = some fn) (hname:(fn.name == "runtime.NumGoroutine") = false)
  {c0 c1 c8 c9 restC:Code} {i3 b0 b1 rn re:Nat} {q0 oR o1 o2 oE:Oper} {opsE:Array Oper} {lE:List Oper}
  (hb:fn.body = some (.seq c0 (.seq c1 (.seq (.seq (.region i3 #[q0,oR] false) (.block b0 (.loop (.seq (.region rn #[o1,o2] false) (.seq (.cond (.tmp 18) .skip (.exit b0)) (.block b1 (.seq (.region re opsE false) restC))))))) (.seq c8 (.seq c9 .ret))))))
  (hnt:fn.ntmps = 72) (hres:compRes T fn.results.toList = some [(Pos.ofNat 4,none)])
  (k0:comp T 72 false c0 = .region g36r0) (k1:comp T 72 false c1 = .region g36r1) (k8:comp T 72 false c8 = .seq (.region g36r8) (.block 2 (.loop g36l13))) (k9:comp T 72 false c9 = .region g36r14) (kr:comp T 72 false restC = .seq (.draw g36d5) (.draw g36d6))
  (kq:compOpers T 72 [q0,oR] [q0] = some [⟨some (Pos.ofNat 15),.move (.t (Pos.ofNat 1)),none⟩]) (hopsE:opsE.toList = oE :: lE)
  (kE:compOpers T 72 opsE.toList lE = some [⟨some (Pos.ofNat 20),.extract (.t (Pos.ofNat 19)) 0,none⟩,⟨some (Pos.ofNat 6),.alloc [.int .i64 (.ofNat 0),.int .i64 (.ofNat 0)],none⟩,⟨none,.store 2 (.t (Pos.ofNat 6)) (.t (Pos.ofNat 20)),none⟩])
  {tm kt et:TypeId} (hR:oR.op = .range tm (.tmp 15)) (hRd:oR.dst = some 16) (hRg:oR.guard = none) (hRt:P.underlying tm = some (.map kt et)) (h1:o1.op = .next (.tmp 16) false) (h1d:o1.dst = some 17) (h1g:o1.guard = none) (h2:o2.op = .extract (.tmp 17) 0) (h2d:o2.dst = some 18) (h2g:o2.guard = none)
  (hE1:oE.op = .entry (.tmp 16)) (hEd:oE.dst = some 19) (hEg:oE.guard = none) {B n:Nat} {m:Pos} {φ:Emb} {H:AHeap} {w:World} {args':Array Value} {es:List Trp} (hH:HRel T B φ H w) (hl:LRel φ [.int .i64 (.ofNat n),.map m] args'.toList) (hmH:PT.get m H.t = some (.map (es.map entT))) (hes:Edges n es) (hn:n≤100000) (hel:es.length≤1000000) :
  Returns P T B φ H w f args' (layGraph H m n (rowsZ n es)).1 (layGraph H m n (rowsZ n es)).2:=by
 have hml:m.toNat < H.nx.toNat:=hH.dom m (by rw [hmH]; simp)
 let t0:PT AObj:=PT.set m (some (.rmap (es.map entT))) .l
 have ht0:PT.get m t0 = some (.rmap (es.map entT)):=PT.get_set_same _ _ _
 have hsub:∀ p o0,PT.get p t0 = some o0→∃ o,PT.get p H.t = some o∧RoObj o o0:=by
  intro p o0 hp
  by_cases e:m = p
  ·subst e
   rw [ht0] at hp
   cases hp
   exact ⟨_,hmH,.inr ⟨_,rfl,rfl⟩⟩
  ·have:PT.get p t0 = PT.get p .l:=PT.get_set_other _ _ _ _ e
   rw [this,get_nil] at hp
   cases hp
 have hH0:=hH.part2 hsub
 have hsound:=fun n=>sound hT (hE w.heap.size) hm n (P:=P) (T:=T)
 have hmφ:φ m ≠ none:=by
  obtain ⟨_,_,_,_,v2,r2,_,⟨x,hx,_⟩,_⟩:=hl
  rw [hx]; simp
 refine returns_graph (t0:=t0) hH hmφ (run_callFunc hf hname hb) (CallsIn.mono (ends_of_wp (R:=fun v H'=>∃ g rs,v = .ptr g 0∧GraphAt H' g m n rs (rowsZ n es)) hT hf hb hres ?_) fun e w' h=>h)
 rw [hnt]
 have hs0:St T w.heap.size 72 φ ⟨t0,H.nx⟩ w (fun t H1=>tget t (Pos.ofNat 0) = .int .i64 (.ofNat n)∧tget t (Pos.ofNat 1) = .map m∧H1 = ⟨t0,H.nx⟩) { tmps:=args' ++ Array.replicate (72 - args'.size) undef,defers:=[] } w :=
  ⟨tput (tput .l (some (Pos.ofNat 0)) (.int .i64 (.ofNat n))) (some (Pos.ofNat 1)) (.map m),⟨t0,H.nx⟩,φ,⟨by simp only [tget_puts,Nat.reduceLT,Nat.reduceEqDiff,↓reduceIte],by simp only [tget_puts,Nat.reduceLT,Nat.reduceEqDiff,↓reduceIte],rfl⟩,Sim.refl hH0,act_start (args:=[.int .i64 (.ofNat n),.map m]) rfl hl (by decide)⟩
 have p0:=piece hsound k0 (ex:=.normal) (Q':=fun t H1=>tget t (Pos.ofNat 0) = .int .i64 (.ofNat n)∧tget t (Pos.ofNat 1) = .map m∧H1 = ⟨t0,H.nx⟩) (by
  rintro t H1 ⟨g0,g1,g2⟩
  refine W.region ?_
  simp (maxDischargeDepth:=9) only [auW,auC,auT,lget,BEq.rfl,beq_self_eq_true,decide_true,decide_false,reduceCtorEq,Nat.reduceLT,Nat.reduceEqDiff,↓reduceIte,g36r0]
  exact ⟨by trivial,by trivial,by simp only [tget_puts,Nat.reduceLT,Nat.reduceEqDiff,↓reduceIte,g0],by simp only [tget_puts,Nat.reduceLT,Nat.reduceEqDiff,↓reduceIte,g1],g2⟩) hs0
 refine wpIn_seq (wpIn_mono p0 ?_)
 rintro e a1 w1 ⟨rfl,hs1⟩
 simp only [exitOf,Exit.then]
 have p1:=piece hsound k1 (ex:=.normal) (Q':=fun t H1=>∃ g tb vs,tget t (Pos.ofNat 1) = .map m∧tget t (Pos.ofNat 5) = .ptr g 0∧RowsI H1 g m tb n vs (fun _=>[])∧PT.get m H1.t = some (.rmap (es.map entT))∧m.toNat < H1.nx.toNat) (by
  rintro t H1 ⟨g0,g1,g2⟩
  subst g2
  refine W.region ?_
  simp (maxDischargeDepth:=9) only [auW,auC,auT,lget,BEq.rfl,beq_self_eq_true,decide_true,decide_false,reduceCtorEq,Nat.reduceLT,Nat.reduceEqDiff,↓reduceIte,g36r1,g0,g1]
  refine wo_mkSlice (n:=n) (c:=n) (by simp only [auT,Nat.reduceLT,Nat.reduceEqDiff,↓reduceIte]; rfl) (by simp only [auT,Nat.reduceLT,Nat.reduceEqDiff,↓reduceIte]; rfl) (Nat.le_refl _) (by omega) (by omega) ?_
  simp (maxDischargeDepth:=9) only [auW,auC,auT,lget,BEq.rfl,beq_self_eq_true,decide_true,decide_false,reduceCtorEq,Nat.reduceLT,Nat.reduceEqDiff,↓reduceIte]
  generalize hX1:(AHeap.new ⟨t0,H.nx⟩ (.cells (repl [.snil] n) false false)).2 = X1
  have x1n:X1.nx = H.nx.succ:=by rw [← hX1]; rfl
  have x1g:PT.get H.nx X1.t = some (.cells (repl [.snil] n) false false):=by rw [← hX1]; exact get_new (H:=⟨t0,H.nx⟩)
  have x1k:Keep H.nx.toNat ⟨t0,H.nx⟩ X1:=by rw [← hX1]; exact keep_new (H:=⟨t0,H.nx⟩)
  have s1:=Pos.toNat_succ H.nx
  refine wo_buildE (vs:=[.int .i64 (.ofNat n),.map m,.sl H.nx 0 n n 0]) (by simp [fillA,AOpnd.ev,tget_puts,vcellsO,lput,lover]) ?_
  refine wo_box (vs:=[.int .i64 (.ofNat n),.map m,.sl H.nx 0 n n 0]) (by simp only [auT,Nat.reduceLT,Nat.reduceEqDiff,↓reduceIte]; rfl) ?_
  simp (maxDischargeDepth:=9) only [auW,auC,auT,lget,BEq.rfl,beq_self_eq_true,decide_true,decide_false,reduceCtorEq,Nat.reduceLT,Nat.reduceEqDiff,↓reduceIte]
  have x2n:((X1.new (.cells [.int .i64 (.ofNat n),.map m,.sl H.nx 0 n n 0] false false)).2).nx.toNat = X1.nx.toNat + 1:=nx_new
  have x1t:X1.nx.toNat = H.nx.toNat + 1:=by rw [x1n]; exact s1
  have ne1:∀ p:Pos,p.toNat < X1.nx.toNat→p ≠ X1.nx:=fun p hp e=>by rw [e] at hp; omega
  refine ⟨by trivial,by trivial,X1.nx,H.nx,repl [.snil] n,by simp only [tget_puts,Nat.reduceLT,Nat.reduceEqDiff,↓reduceIte,g1],by simp only [tget_puts,Nat.reduceLT,Nat.reduceEqDiff,↓reduceIte],⟨get_new,?_,fun e=>ne1 H.nx (by omega) e.symm,repl1_length _ _,fun i v hv=>?_,fun i j v u b _ hv _ hb=>?_,by omega,by omega⟩,?_,by omega⟩
  ·rw [get_new_other (ne1 H.nx (by omega))]; exact x1g
  ·rw [repl_nil n i v hv]
   exact ⟨.inl ⟨rfl,rfl⟩,fun b hb=>by cases hb⟩
  ·rw [repl_nil n i v hv] at hb; cases hb
  ·rw [get_new_other (ne1 m (by omega)),x1k.get m hml]; exact ht0) hs1
 refine wpIn_seq (wpIn_mono p1 ?_)
 rintro e a2 w2 ⟨rfl,hs2⟩
 simp only [exitOf,Exit.then]
 have p2:=range_map hT (hE w.heap.size) hsound hopsE kr kq kE (tM:=15) (tR:=16) (tN:=17) (tB:=18) (tE:=19) hR hRd hRg hRt h1 h1d h1g h2 h2d h2g hE1 hEd hEg (by decide) (by decide) (by decide) (i0:=i3) (rn:=rn) (re:=re) (b0:=b0) (b1:=b1)
  (J:=fun mo pr ents t H1=>∃ g tb vs done,mo = some m∧(done.map entT ++ ents).Perm (es.map entT)∧tget t (Pos.ofNat 5) = .ptr g 0∧RowsI H1 g m tb n vs (fun k=>nbrs (Int.ofNat k) done)∧pr.toNat < H1.nx.toNat∧m.toNat < H1.nx.toNat) ?_ ?_ ?_ ?_ hs2
 rotate_left
 ·rintro t H1 ⟨g,tb,vs,g1,g5,gG,gm,gml⟩
  refine ⟨_,by simp only [qops,quiet,AOpnd.ev]; rfl,.inr ⟨m,es.map entT,by simp only [tget_puts,Nat.reduceLT,Nat.reduceEqDiff,↓reduceIte,g1],by rw [gm]; rfl,fun ob1 ob2=>⟨g,tb,vs,[],rfl,by simp,by simp only [tget_puts,Nat.reduceLT,Nat.reduceEqDiff,↓reduceIte,g5],?_,?_,?_⟩⟩⟩
  ·have hne:∀ p o,PT.get p H1.t = some o→(∀ es,o ≠ .rmap es)→p ≠ m:=fun p o h1 h2 e=>by
    subst e
    rw [gm] at h1
    cases h1
    exact h2 _ rfl
   have hup:∀ p o,PT.get p H1.t = some o→(∀ es,o ≠ .rmap es)→PT.get p (H1.upd m (.raw ob1)).t = some o:=fun p o h1 h2=>by
    rw [get_upd_other (fun e=>hne p o h1 h2 e.symm)]; exact h1
   have hGu:RowsI (H1.upd m (.raw ob1)) g m tb n vs (fun _=>[]):=by
    refine ⟨hup _ _ gG.og (by simp),hup _ _ gG.ot (by simp),gG.ne,gG.len,fun i v hv=>?_,gG.sep,gG.gl,gG.tl⟩
    obtain ⟨r1,r2⟩:=gG.row i v hv
    refine ⟨r1.mono fun b hb=>?_,r2⟩
    have:=r1.blk hb
    rw [this]
    exact hup _ _ this (by simp)
   exact hGu.keep keep_new (Nat.le_refl _)
  ·show H1.nx.toNat < H1.nx.succ.toNat; rw [Pos.toNat_succ]; omega
  ·show m.toNat < H1.nx.succ.toNat; rw [Pos.toNat_succ]; omega
 ·rintro mo pr l1 l2 t H1 ⟨g,tb,vs,done,j1,j2,j3⟩ hp
  exact ⟨g,tb,vs,done,j1,(hp.symm.append_left _).trans j2,j3⟩
 ·rintro mo pr l t H1 ob1 ob2 ⟨g,tb,vs,done,j1,j2,j3,j4,j5⟩ hpr
  exact ⟨g,tb,vs,done,j1,j2,j3,j4.raw hpr,j5⟩
 ·rintro m' pr k v l t H1 ⟨g,tb,vs,done,j1,j2,j3,j4,j5,j6⟩ h16 hpr hmr
  cases j1
  obtain ⟨y,hy,hye⟩:=List.mem_map.1 (j2.mem_iff.1 (show (k,v) ∈ done.map entT ++ (k,v) :: l by simp))
  have hke:k = (entT y).1:=by rw [hye]
  have hve:v = (entT y).2:=by rw [hye]
  subst hke hve
  have hdl:done.length≤es.length:=by
   have:=j2.length_eq
   simp at this
   omega
  obtain ⟨y1,y2,y3⟩:=hes.lt y hy
  obtain ⟨i,hi⟩:=Int.eq_ofNat_of_zero_le y1
  obtain ⟨j,hj⟩:=Int.eq_ofNat_of_zero_le (show 0≤y.2.1 by omega)
  obtain ⟨t2,H2,ho,hw⟩:=of_round (E:=E) (y:=y) (i:=i) (j:=j) hi hj (by omega) (by omega) j4 (by omega) j3 h16 hpr hmr j5 j6
  refine ⟨t2,H2,ho,W.mono hw ?_⟩
  rintro e aa H3 ⟨rfl,hds,⟨⟨vs',q1⟩,q2,q3⟩,q5,q6,q7⟩
  exact ⟨rfl,hds,⟨g,tb,vs',done ++ [y],rfl,by simpa using j2,q2,q1,by omega,by omega⟩,q5,q6,q7⟩
 refine wpIn_seq (wpIn_mono p2 ?_)
 rintro e a3 w3 ⟨rfl,hs3⟩
 simp only [exitOf,Exit.then]
 have p8:=piece hsound k8 (ex:=.normal) (Q':=fun t H1=>∃ g tb vs,tget t (Pos.ofNat 5) = .ptr g 0∧RowsI H1 g m tb n vs (fun k=>rowZ es (Int.ofNat k))) (by
  rintro t H1 ⟨mo,pr,t1,⟨g,tb,vs,done,j1,j2,j3,j4,j5,j6⟩,rfl⟩
  have hperm:done.Perm es:=ent_inj (by simpa using j2)
  have og:=j4.og
  have g2:hload H1 g (0 + 2) = some (.sl tb 0 n n 0):=by rw [hload_at og (by simp)]; rfl
  have hlen:fLen H1 1 (.sl tb 0 n n 0) = some (.int .i64 (.ofNat n)):=rfl
  refine W.seq (W.region ?_)
  simp (maxDischargeDepth:=9) only [auW,auC,auT,lget,BEq.rfl,beq_self_eq_true,decide_true,decide_false,reduceCtorEq,Nat.reduceLT,Nat.reduceEqDiff,↓reduceIte,g36r8,j3,g2,hlen]
  simp only [andThen]
  refine W.block (W.mono (of_sorts' (g:=g) (m:=m) (tb:=tb) (n:=n) hs78 (by omega) hel hperm n _ _ ⟨0,vs,by omega,?_,?_,?_,?_,?_⟩) ?_)
  ·simp only [tget_puts,Nat.reduceLT,Nat.reduceEqDiff,↓reduceIte,j3]
  ·simp only [tget_puts,Nat.reduceLT,Nat.reduceEqDiff,↓reduceIte]
  ·simp only [tget_puts,Nat.reduceLT,Nat.reduceEqDiff,↓reduceIte]
  ·simp only [tget_puts,Nat.reduceLT,Nat.reduceEqDiff,↓reduceIte]
  ·simpa using j4
  rintro e ⟨t',ds⟩ H' ⟨rfl,hd,h5,vs',hG⟩
  exact ⟨rfl,hd,g,tb,vs',h5,hG⟩) hs3
 refine wpIn_seq (wpIn_mono p8 ?_)
 rintro e a4 w4 ⟨rfl,hs4⟩
 simp only [exitOf,Exit.then]
 have p9:=piece hsound k9 (ex:=.normal) (Q':=fun t H1=>∃ g tb vs,tget t (Pos.ofNat 4) = .ptr g 0∧RowsI H1 g m tb n vs (fun k=>rowZ es (Int.ofNat k))) (by
  rintro t H1 ⟨g,tb,vs,g5,gG⟩
  refine W.region ?_
  simp (maxDischargeDepth:=9) only [auW,auC,auT,lget,BEq.rfl,beq_self_eq_true,decide_true,decide_false,reduceCtorEq,Nat.reduceLT,Nat.reduceEqDiff,↓reduceIte,g36r14,g5]
  exact ⟨by trivial,by trivial,g,tb,vs,by simp only [tget_puts,Nat.reduceLT,Nat.reduceEqDiff,↓reduceIte],gG⟩) hs4
 refine wpIn_seq (wpIn_mono p9 ?_)
 rintro e a5 w5 ⟨rfl,hs5⟩
 simp only [exitOf,Exit.then]
 refine wpIn_ret ⟨.inr rfl,hs5.mono ?_⟩
 rintro t H1 ⟨g,tb,vs,g4,gG⟩
 exact ⟨[.ptr g 0],by simp [resultA,g4],g,vs,rfl,gG.graph⟩
end
end Go.Am
end
