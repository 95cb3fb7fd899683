/- Part of the proof: AmH12, AmH13, AmH14, AmH15. -/
import Derived.Test.YtaogphcjlkeakaaGreatDoorFn3
import Derived.Test.YtaogphcjlkeakaaGreatDoorFn4
set_option linter.unusedSimpArgs false
set_option linter.unusedVariables false
section
namespace Go.Am
open Go Go.RowKit
theorem eq_sl_nil (H:AHeap) :eqV H (.one .sl) .snil .snil = some true:=rfl
theorem eq_sl_no (H:AHeap) (b:Pos) (o l c s:Nat) :eqV H (.one .sl) (.sl b o l c s) .snil = some false:=rfl
theorem eq_ptr_no (H:AHeap) (b:Pos) (o:Nat) :eqV H (.one .ptr) (.ptr b o) .pnil = some false:=rfl
theorem b_lssI (a b:Int) :binOpA .lss (.int .i64 a) (.int .i64 b) = some (.bool (decide (a < b))):=by
 show some (AVal.bool (ltI a b)) = _
 rw [ltI_eq]
theorem RowK.reads {H:AHeap} {v:AVal} {l:List Int} (h:RowK H v l) :Reads H.nx.toNat H v (intVals l):=by
 rcases h with ⟨rfl,rfl⟩ | ⟨b,rfl,h1,h2⟩
 ·exact .inl ⟨rfl,rfl⟩
 ·refine .inr ⟨b,0,l.length,1,by rw [intVals_length],?_,h2,.inr rfl,by rw [intVals_length]; exact Nat.le_refl _⟩
  rw [hloadN_at h1 (by omega),List.drop_zero,List.take_length]
theorem GraphH.fields {N n:Nat} {H:AHeap} {v:AVal} {es:List Trp} (h:GraphH N H v n es) :∃ g m tb,v = .ptr g 0∧hload H g (0 + 0) = some (.int .i64 (.ofNat n))∧hload H g (0 + 1) = some (.map m)∧hload H g (0 + 2) = some (.sl tb 0 n n 0)∧∀ i,i < n→∃ u,hload H tb (0 + i) = some u∧RowK H u (rowZ es (Int.ofNat i)):=by
 obtain ⟨_,g,m,tb,vs,h1,h2,h3,h4,h5,h6,_⟩:=h
 refine ⟨g,m,tb,h1,by rw [hload_at h2 (by simp)]; rfl,by rw [hload_at h2 (by simp)]; rfl,by rw [hload_at h2 (by simp)]; rfl,fun i hi=>?_⟩
 obtain ⟨u,e1,e2⟩:=h6 i hi
 obtain ⟨k1,k2⟩:=List.getElem?_eq_some_iff.1 e1
 exact ⟨u,by rw [Nat.zero_add,hload_at h3 k1,k2],e2⟩
section
variable {E:Env}
theorem clone_ok (C:CodeOkC E) {H:AHeap} {v:AVal} {l:List Int} (h:RowK H v l) (hl:l.length≤10000000) :
  ∃ v' H',CallS E 40 [v] H v' H'∧Reads H'.nx.toNat H' v' (intVals l)∧Keep H.nx.toNat H H':=by
 refine CallS.by (R:=fun v' H'=>Reads H'.nx.toNat H' v' (intVals l)∧Keep H.nx.toNat H H') (t0:=tput .l (some (Pos.ofNat 0)) v) (C.s _ rfl) rfl C.f40 rfl ?_
 refine W.seq (W.region ?_)
 simp (maxDischargeDepth:=9) only [auW,auC,auT,lget,BEq.rfl,beq_self_eq_true,decide_true,decide_false,reduceCtorEq,Nat.reduceLT,Nat.reduceEqDiff,↓reduceIte,g40r0]
 simp only [andThen]
 rcases h with ⟨rfl,rfl⟩ | ⟨b,rfl,hb,hbl⟩
 ·refine W.seq (W.seq (W.region ?_))
  simp (maxDischargeDepth:=9) only [auW,auC,auT,lget,BEq.rfl,beq_self_eq_true,decide_true,decide_false,reduceCtorEq,Nat.reduceLT,Nat.reduceEqDiff,↓reduceIte,g40r1,eq_sl_nil,fEq]
  simp only [andThen]
  refine W.cond_true (by simp [AOpnd.ev,tget_puts]) (W.seq (W.region ?_))
  simp (maxDischargeDepth:=9) only [auW,auC,auT,lget,BEq.rfl,beq_self_eq_true,decide_true,decide_false,reduceCtorEq,Nat.reduceLT,Nat.reduceEqDiff,↓reduceIte,g40r2]
  refine W.ret ⟨.inr rfl,rfl,.snil,?_,.inl ⟨rfl,rfl⟩,Keep.refl _ _⟩
  simp [resultA,g40,tget_puts]
 ·refine W.seq (W.seq (W.region ?_))
  simp (maxDischargeDepth:=9) only [auW,auC,auT,lget,BEq.rfl,beq_self_eq_true,decide_true,decide_false,reduceCtorEq,Nat.reduceLT,Nat.reduceEqDiff,↓reduceIte,g40r1,eq_sl_no,fEq]
  simp only [andThen]
  refine W.cond_false (by simp [AOpnd.ev,tget_puts]) (W.skip ?_)
  simp only [andThen]
  have k1:Keep H.nx.toNat H (H.new (.cells [] false false)).2:=keep_new
  have hn1:(H.new (.cells [] false false)).2.nx.toNat = H.nx.toNat + 1:=nx_new
  have g1:PT.get H.nx (H.new (.cells [] false false)).2.t = some (.cells [] false false):=get_new
  have hsrc:srcCells (H.new (.cells [] false false)).2 1 (.sl b 0 l.length l.length 1) = some (l.length,intVals l):=by
   unfold srcCells
   have:hloadN (H.new (.cells [] false false)).2 b 0 (Nat.mul l.length 1) = some (intVals l):=by
    have hb1:PT.get b (H.new (.cells [] false false)).2.t = some (.cells (intVals l) true false):=by rw [k1.get b hbl]; exact hb
    rw [hloadN_at hb1 (by rw [intVals_length]; show 0 + l.length * 1≤_; omega),List.drop_zero,List.take_of_length_le (by rw [intVals_length]; show l.length≤l.length * 1; omega)]
   simp only [this]
  have happ:∃ v' H',appendA (H.new (.cells [] false false)).2 1 8 (.sl H.nx 0 0 0 0) (.sl b 0 l.length l.length 1) = some (v',H')∧Reads H'.nx.toNat H' v' (intVals l)∧Keep H.nx.toNat H H':=by
   generalize (H.new (.cells [] false false)).2 = H1 at k1 hn1 g1 hsrc ⊢
   unfold appendA
   rw [hsrc]
   cases l with
   | nil =>
    have e2:hstoreN H1 H.nx (Nat.add 0 (Nat.mul 0 1)) (intVals []) = some (H1.upd H.nx (.cells [] false false)):=by
     unfold hstoreN
     rw [g1]
     rfl
    refine ⟨.sl H.nx 0 0 0 0,H1.upd H.nx (.cells [] false false),?_,.inr ⟨H.nx,0,0,0,rfl,?_,by show _ < H1.nx.toNat; omega,.inl rfl,Nat.le_refl _⟩,k1.trans (keep_upd (Nat.le_refl _))⟩
    ·simp only [List.length_nil,e2]
     try rfl
    ·unfold hloadN
     rw [get_upd]
     rfl
   | cons a r =>
    have e1:Nat.ble (Nat.add 0 (a :: r).length) 0 = false:=ble_f (by show 0 < 0 + (r.length + 1); omega)
    have e2:hloadN H1 H.nx 0 (Nat.mul 0 1) = some []:=by
     unfold hloadN
     rw [g1]
     rfl
    have e3:Nat.ble (Nat.mul (Nat.mul (Nat.add 0 (a :: r).length) 2) 8) 281474976710656 = true:=ble_t (by show (0 + (a :: r).length) * 2 * 8≤_; omega)
    refine ⟨.sl H1.nx 0 (a :: r).length (a :: r).length 1,(H1.new (.cells (intVals (a :: r)) true false)).2,?_,.inr ⟨H1.nx,0,(a :: r).length,1,by rw [intVals_length],?_,by rw [nx_new]; omega,.inr rfl,by rw [intVals_length]; exact Nat.le_refl _⟩,k1.trans (keep_new.mono (by omega))⟩
    ·simp only [e1,e2,e3]
     rw [show Nat.add 0 (a :: r).length = (a :: r).length from Nat.zero_add _]
     rfl
    ·rw [hloadN_at get_new (by omega),List.drop_zero,List.take_length]
  obtain ⟨v',H',a1,a2,a3⟩:=happ
  refine W.seq (W.region ?_)
  simp (maxDischargeDepth:=9) only [auW,auC,auT,lget,BEq.rfl,beq_self_eq_true,decide_true,decide_false,reduceCtorEq,Nat.reduceLT,Nat.reduceEqDiff,↓reduceIte,g40r3]
  refine wo_buildSlice (vs:=[]) (by simp [fillA]) ?_
  simp (maxDischargeDepth:=9) only [auW,auC,auT,lget,BEq.rfl,beq_self_eq_true,decide_true,decide_false,reduceCtorEq,Nat.reduceLT,Nat.reduceEqDiff,↓reduceIte]
  refine wo_appendE a1 (by simp only [auT,Nat.reduceLT,Nat.reduceEqDiff,↓reduceIte]) (by simp only [auT,Nat.reduceLT,Nat.reduceEqDiff,↓reduceIte]) ?_
  simp (maxDischargeDepth:=9) only [auW,auC,auT,lget,BEq.rfl,beq_self_eq_true,decide_true,decide_false,reduceCtorEq,Nat.reduceLT,Nat.reduceEqDiff,↓reduceIte]
  refine W.ret ⟨.inr rfl,rfl,v',?_,a2,a3⟩
  simp [resultA,g40,tget_puts]
theorem n_ok (C:CodeOkC E) {N n:Nat} {H:AHeap} {v:AVal} {es:List Trp} (h:GraphH N H v n es) :CallS E 37 [v] H (.int .i64 (.ofNat n)) H:=by
 suffices k:∃ w H',CallS E 37 [v] H w H'∧w = .int .i64 (.ofNat n)∧H' = H by obtain ⟨w,H',k,rfl,rfl⟩:=k; exact k
 obtain ⟨g,m,tb,rfl,f0,f1,f2,_⟩:=h.fields
 refine CallS.by (R:=fun w H'=>w = .int .i64 (.ofNat n)∧H' = H) (t0:=tput .l (some (Pos.ofNat 0)) (.ptr g 0)) (C.s _ rfl) rfl C.f37 rfl ?_
 refine W.seq (W.region ?_)
 simp (maxDischargeDepth:=9) only [auW,auC,auT,lget,BEq.rfl,beq_self_eq_true,decide_true,decide_false,reduceCtorEq,Nat.reduceLT,Nat.reduceEqDiff,↓reduceIte,g37r0]
 refine W.seq (W.region ?_)
 simp (maxDischargeDepth:=9) only [auW,auC,auT,lget,BEq.rfl,beq_self_eq_true,decide_true,decide_false,reduceCtorEq,Nat.reduceLT,Nat.reduceEqDiff,↓reduceIte,g37r1,f0]
 refine W.ret ⟨.inr rfl,rfl,.int .i64 (.ofNat n),?_,rfl,rfl⟩
 simp [resultA,g37,tget_puts]
theorem neigh_ok (C:CodeOkC E) {N n u:Nat} {H:AHeap} {v:AVal} {es:List Trp} (h:GraphH N H v n es) (hu:u < n) (hel:es.length≤1000000) :
  ∃ v' H',CallS E 13 [v,.int .i64 (.ofNat u)] H v' H'∧Reads H'.nx.toNat H' v' (intVals (rowZ es (Int.ofNat u)))∧Keep H.nx.toNat H H':=by
 obtain ⟨g,m,tb,rfl,f0,f1,f2,f3⟩:=h.fields
 obtain ⟨w,f4,f5⟩:=f3 u hu
 have hrl:(rowZ es (Int.ofNat u)).length≤es.length:=by
  have:=nbrs_length (Int.ofNat u) es
  have h2:=sortZ_length (nbrs (Int.ofNat u) es)
  unfold rowZ; omega
 obtain ⟨v',H',c1,c2,c3⟩:=clone_ok C f5 (by omega)
 have ci:=is_ok (E:=E) (C.s _ rfl) C.f34 (H:=H) hu
 refine CallS.by (R:=fun v' H'=>Reads H'.nx.toNat H' v' (intVals (rowZ es (Int.ofNat u)))∧Keep H.nx.toNat H H') (t0:=tput (tput .l (some (Pos.ofNat 0)) (.ptr g 0)) (some (Pos.ofNat 1)) (.int .i64 (.ofNat u))) (C.s _ rfl) rfl C.f13 rfl ?_
 refine W.seq (W.region ?_)
 simp (maxDischargeDepth:=9) only [auW,auC,auT,lget,BEq.rfl,beq_self_eq_true,decide_true,decide_false,reduceCtorEq,Nat.reduceLT,Nat.reduceEqDiff,↓reduceIte,g13r0]
 simp only [andThen]
 refine W.seq (W.seq (W.region ?_))
 simp (maxDischargeDepth:=9) only [auW,auC,auT,lget,BEq.rfl,beq_self_eq_true,decide_true,decide_false,reduceCtorEq,Nat.reduceLT,Nat.reduceEqDiff,↓reduceIte,g13r1,f0]
 refine wo_callE (ci) (by simp only [auT,Nat.reduceLT,Nat.reduceEqDiff,↓reduceIte]) ?_
 simp (maxDischargeDepth:=9) only [auW,auC,auT,lget,BEq.rfl,beq_self_eq_true,decide_true,decide_false,reduceCtorEq,Nat.reduceLT,Nat.reduceEqDiff,↓reduceIte]
 simp only [andThen]
 refine W.cond_false (by simp [AOpnd.ev,tget_puts]) (W.skip ?_)
 simp only [andThen]
 refine W.seq (W.region ?_)
 simp (maxDischargeDepth:=9) only [auW,auC,auT,lget,BEq.rfl,beq_self_eq_true,decide_true,decide_false,reduceCtorEq,Nat.reduceLT,Nat.reduceEqDiff,↓reduceIte,g13r3,f2,idx_row hu,f4]
 refine wo_callE (c1) (by simp only [auT,Nat.reduceLT,Nat.reduceEqDiff,↓reduceIte]) ?_
 simp (maxDischargeDepth:=9) only [auW,auC,auT,lget,BEq.rfl,beq_self_eq_true,decide_true,decide_false,reduceCtorEq,Nat.reduceLT,Nat.reduceEqDiff,↓reduceIte]
 refine W.ret ⟨.inr rfl,rfl,v',?_,c2,c3⟩
 simp [resultA,g13,tget_puts]
end
end Go.Am
end

section
namespace Go.Am
open Go Go.RowKit
def pairsU (u:Int) :List Int→List Prr
 | []=>[]
 | v :: l=>match decide (u < v) with
  | true=>(u,v) :: pairsU u l
  | false=>pairsU u l
theorem pairsU_snoc (u v:Int) :∀ l:List Int,pairsU u (l ++ [v]) = pairsU u l ++ (match decide (u < v) with | true=>[(u,v)] | false=>[])
 | []=>by
  simp only [List.nil_append,pairsU]
  all_goals cases decide (u < v) <;> rfl
 | x :: l=>by
  simp only [List.cons_append,pairsU,pairsU_snoc u v l]
  cases decide (u < x) <;> rfl
theorem pairsU_length (u:Int) :∀ l:List Int,(pairsU u l).length≤l.length
 | []=>Nat.le_refl _
 | x :: l=>by
  have:=pairsU_length u l
  simp only [pairsU]
  cases decide (u < x) <;> simp only [List.length_cons] <;> omega
def pairsN (es:List Trp) :Nat→List Prr
 | 0=>[]
 | k + 1=>pairsN es k ++ pairsU (Int.ofNat k) (rowZ es (Int.ofNat k))
theorem rowZ_length (es:List Trp) (u:Int) :(rowZ es u).length≤es.length:=by
 have:=nbrs_length u es
 have h2:=sortZ_length (nbrs u es)
 unfold rowZ; omega
theorem pairsN_length (es:List Trp) :∀ k,(pairsN es k).length≤k * es.length
 | 0=>by simp [pairsN]
 | k + 1=>by
  have h1:=pairsN_length es k
  have h2:=pairsU_length (Int.ofNat k) (rowZ es (Int.ofNat k))
  have h3:=rowZ_length es (Int.ofNat k)
  simp only [pairsN,List.length_append]
  rw [Nat.add_mul]
  omega
theorem pairsN_same {n:Nat} {a b:List Trp} (h:∀ u,u < n→rowZ a (Int.ofNat u) = rowZ b (Int.ofNat u)) :∀ k,k≤n→pairsN a k = pairsN b k
 | 0,_=>rfl
 | k + 1,hk=>by simp only [pairsN]; rw [pairsN_same h k (by omega),h k (by omega)]
theorem append_pair {N:Nat} {H:AHeap} {v:AVal} {ps:List Prr} (h:GN 2 N H v ps.length (pairVals ps)) (hN:N≤H.nx.toNat) (p:Prr) (hb:ps.length≤1000000000) :∃ v' H',appendA (H.new (.cells (cell2 p) false false)).2 2 16 v (.sl H.nx 0 1 1 0) = some (v',H')∧GN 2 N H' v' (ps ++ [p]).length (pairVals (ps ++ [p]))∧Fr v H v' H':=by
 have k1:Keep H.nx.toNat H (H.new (.cells (cell2 p) false false)).2:=keep_new
 have hn:(H.new (.cells (cell2 p) false false)).2.nx.toNat = H.nx.toNat + 1:=nx_new
 have hs:srcCells (H.new (.cells (cell2 p) false false)).2 2 (.sl H.nx 0 1 1 0) = some (1,cell2 p):=by
  unfold srcCells
  have:hloadN (H.new (.cells (cell2 p) false false)).2 H.nx 0 (Nat.mul 1 2) = some (cell2 p):=by
   unfold hloadN
   rw [get_new]
   rfl
  simp only [this]
 generalize (H.new (.cells (cell2 p) false false)).2 = H1 at k1 hs hn ⊢
 obtain ⟨v',H',e1,e2,e3⟩:=append_gn (by':=16) (by omega) (h.keep k1 (Nat.le_refl _)) (by omega) hs rfl rfl (by omega)
 refine ⟨v',H',e1,?_,(Fr.of_keep k1).trans e3⟩
 rw [pairVals_append,List.length_append]
 exact e2
section
variable {E:Env}
theorem pairs_in {K N u:Nat} {H0:AHeap} {x:AVal} {l:List Int} {ps0:List Prr} (hx:Reads K H0 x (intVals l)) (hK:K≤N) (hNH:N≤H0.nx.toNat) (hl:l.length≤1000000) (hps:ps0.length≤100000000) {t0:PT AVal} {ro:Option Pos} :
  ∀ (q:Nat) (t:PT AVal) (H:AHeap),(∃ i v,i + q = l.length∧tget t (Pos.ofNat 3) = v∧tget t (Pos.ofNat 4) = .int .i64 (.ofNat u)∧tget t (Pos.ofNat 18) = x∧tget t (Pos.ofNat 19) = .int .i64 (.ofNat l.length)∧tget t (Pos.ofNat 20) = .int .i64 (.ofNat i)∧GN 2 N H v (ps0 ++ pairsU (Int.ofNat u) (l.take i)).length (pairVals (ps0 ++ pairsU (Int.ofNat u) (l.take i)))∧Keep N H0 H∧Pres [11,12,13] t0 t) →
  W E (.loop g39l11) ro ⟨t,[]⟩ H (fun e a' H'=>e = .exit 2∧a'.ds = []∧∃ v,tget a'.t (Pos.ofNat 3) = v∧GN 2 N H' v (ps0 ++ pairsU (Int.ofNat u) l).length (pairVals (ps0 ++ pairsU (Int.ofNat u) l))∧Keep N H0 H'∧Pres [11,12,13] t0 a'.t):=by
 refine W.loop_inv (Q:=fun e a' H'=>e = .exit 2∧a'.ds = []∧∃ v,tget a'.t (Pos.ofNat 3) = v∧GN 2 N H' v (ps0 ++ pairsU (Int.ofNat u) l).length (pairVals (ps0 ++ pairsU (Int.ofNat u) l))∧Keep N H0 H'∧Pres [11,12,13] t0 a'.t) _ ?_
 rintro q t H ⟨i,v,hi,h3,h4,h18,h19,h20,hG,hk,hp⟩
 refine W.seq (W.region ?_)
 simp (maxDischargeDepth:=9) only [auW,auC,auT,lget,BEq.rfl,beq_self_eq_true,decide_true,decide_false,reduceCtorEq,Nat.reduceLT,Nat.reduceEqDiff,↓reduceIte,g39r6,h19,h20]
 refine W.seq (W.cond_if (p:=i < l.length) (by simp [AOpnd.ev,tget_puts]) (fun hlt=>W.skip ?_) (fun hge=>W.exit ?_))
 rotate_left
 ·rw [List.take_of_length_le (by omega)] at hG
  refine ⟨by trivial,by trivial,v,by simp only [tget_puts,Nat.reduceLT,Nat.reduceEqDiff,↓reduceIte,h3],hG,hk,?_⟩
  try dsimp only
  repeat (first | refine Pres.put ?_ (by decide) (by decide) | exact hp)
 simp only [andThen]
 have hnn:=hk.nx
 obtain ⟨bx,ox,e1,e2⟩:=IReads.fIdx (hx.keep hk hK) hlt
 refine W.seq (W.block (W.seq (W.region ?_)))
 simp (maxDischargeDepth:=9) only [auW,auC,auT,lget,BEq.rfl,beq_self_eq_true,decide_true,decide_false,reduceCtorEq,Nat.reduceLT,Nat.reduceEqDiff,↓reduceIte,g39r7,h18,h20,e1,fLoad1,e2]
 simp only [andThen]
 refine W.seq (W.region ?_)
 simp (maxDischargeDepth:=9) only [auW,auC,auT,lget,BEq.rfl,beq_self_eq_true,decide_true,decide_false,reduceCtorEq,Nat.reduceLT,Nat.reduceEqDiff,↓reduceIte,g39r8,h4,b_lssI]
 simp only [andThen]
 have htk:l.take (i + 1) = l.take i ++ [l[i]]:=by rw [List.take_succ_eq_append_getElem hlt]
 have hul:=pairsU_length (Int.ofNat u) (l.take i)
 have htl:(l.take i).length≤i:=by rw [List.length_take]; omega
 refine W.cond_if (p:=(Int.ofNat u) < l[i]) (by simp [AOpnd.ev,tget_puts]) (fun hlt2=>W.region ?_) (fun hge=>W.skip ?_)
 ·obtain ⟨v2,H2,c1,G2,F2⟩:=append_pair hG (by omega) (Int.ofNat u,l[i]) (by rw [List.length_append]; omega)
  simp (maxDischargeDepth:=9) only [auW,auC,auT,lget,BEq.rfl,beq_self_eq_true,decide_true,decide_false,reduceCtorEq,Nat.reduceLT,Nat.reduceEqDiff,↓reduceIte,g39r9,h3,h4]
  refine wo_buildE (vs:=cell2 (Int.ofNat u,l[i])) (by simp [fillA,AOpnd.ev,tget_puts,vcellsO,lput,lover]) ?_
  refine wo_buildSlice (vs:=cell2 (Int.ofNat u,l[i])) (by simp [fillA,AOpnd.ev,tget_puts,vcellsO,lput,lover]) ?_
  refine wo_appendE c1 (by simp only [auT,Nat.reduceLT,Nat.reduceEqDiff,↓reduceIte,h3]) (by simp only [auT,Nat.reduceLT,Nat.reduceEqDiff,↓reduceIte]) ?_
  simp (maxDischargeDepth:=9) only [auW,auC,auT,lget,BEq.rfl,beq_self_eq_true,decide_true,decide_false,reduceCtorEq,Nat.reduceLT,Nat.reduceEqDiff,↓reduceIte]
  simp only [andThen,inBlock]
  refine W.region ?_
  simp (maxDischargeDepth:=9) only [auW,auC,auT,lget,BEq.rfl,beq_self_eq_true,decide_true,decide_false,reduceCtorEq,Nat.reduceLT,Nat.reduceEqDiff,↓reduceIte,g39r10,h20,b_add (show i + 1≤9223372036854775807 by omega)]
  refine ⟨by trivial,q - 1,by omega,i + 1,v2,by omega,?_,?_,?_,?_,?_,?_,hk.trans (hG.keepFr (by omega) F2),?_⟩
  ·simp only [tget_puts,Nat.reduceLT,Nat.reduceEqDiff,↓reduceIte]
  ·simp only [tget_puts,Nat.reduceLT,Nat.reduceEqDiff,↓reduceIte,h4]
  ·simp only [tget_puts,Nat.reduceLT,Nat.reduceEqDiff,↓reduceIte,h18]
  ·simp only [tget_puts,Nat.reduceLT,Nat.reduceEqDiff,↓reduceIte,h19]
  ·simp only [tget_puts,Nat.reduceLT,Nat.reduceEqDiff,↓reduceIte]
  ·rw [htk,pairsU_snoc,show decide (Int.ofNat u < l[i]) = true from decide_eq_true hlt2]
   simp only
   rw [← List.append_assoc]
   exact G2
  ·try dsimp only
   repeat (first | refine Pres.put ?_ (by decide) (by decide) | exact hp)
 ·simp only [andThen,inBlock]
  refine W.region ?_
  simp (maxDischargeDepth:=9) only [auW,auC,auT,lget,BEq.rfl,beq_self_eq_true,decide_true,decide_false,reduceCtorEq,Nat.reduceLT,Nat.reduceEqDiff,↓reduceIte,g39r10,h20,b_add (show i + 1≤9223372036854775807 by omega)]
  refine ⟨by trivial,q - 1,by omega,i + 1,v,by omega,?_,?_,?_,?_,?_,?_,hk,?_⟩
  ·simp only [tget_puts,Nat.reduceLT,Nat.reduceEqDiff,↓reduceIte,h3]
  ·simp only [tget_puts,Nat.reduceLT,Nat.reduceEqDiff,↓reduceIte,h4]
  ·simp only [tget_puts,Nat.reduceLT,Nat.reduceEqDiff,↓reduceIte,h18]
  ·simp only [tget_puts,Nat.reduceLT,Nat.reduceEqDiff,↓reduceIte,h19]
  ·simp only [tget_puts,Nat.reduceLT,Nat.reduceEqDiff,↓reduceIte]
  ·rw [htk,pairsU_snoc,show decide (Int.ofNat u < l[i]) = false from decide_eq_false hge]
   simp only
   rw [List.append_nil]
   exact hG
  ·try dsimp only
   repeat (first | refine Pres.put ?_ (by decide) (by decide) | exact hp)
theorem pairs_out {n:Nat} {H0:AHeap} {tb:Pos} {es:List Trp} (hr:∀ i,i < n→∃ u,hload H0 tb (0 + i) = some u∧RowK H0 u (rowZ es (Int.ofNat i))) (htb:tb.toNat < H0.nx.toNat) (hn:n≤1000) (hel:es.length≤100000) {ro:Option Pos} :
  ∀ (q:Nat) (t:PT AVal) (H:AHeap),(∃ i v,i + q = n∧tget t (Pos.ofNat 3) = v∧tget t (Pos.ofNat 11) = .sl tb 0 n n 0∧tget t (Pos.ofNat 12) = .int .i64 (.ofNat n)∧tget t (Pos.ofNat 13) = .int .i64 (.ofNat i)∧GN 2 H0.nx.toNat H v (pairsN es i).length (pairVals (pairsN es i))∧Keep H0.nx.toNat H0 H) →
  W E (.loop g39l13) ro ⟨t,[]⟩ H (fun e a' H'=>e = .exit 0∧a'.ds = []∧∃ v,tget a'.t (Pos.ofNat 3) = v∧GN 2 H0.nx.toNat H' v (pairsN es n).length (pairVals (pairsN es n))∧Keep H0.nx.toNat H0 H'):=by
 refine W.loop_inv (Q:=fun e a' H'=>e = .exit 0∧a'.ds = []∧∃ v,tget a'.t (Pos.ofNat 3) = v∧GN 2 H0.nx.toNat H' v (pairsN es n).length (pairVals (pairsN es n))∧Keep H0.nx.toNat H0 H') _ ?_
 rintro q t H ⟨i,v,hi,h3,h11,h12,h13,hG,hk⟩
 refine W.seq (W.region ?_)
 simp (maxDischargeDepth:=9) only [auW,auC,auT,lget,BEq.rfl,beq_self_eq_true,decide_true,decide_false,reduceCtorEq,Nat.reduceLT,Nat.reduceEqDiff,↓reduceIte,g39r3,h12,h13]
 refine W.seq (W.cond_if (p:=i < n) (by simp [AOpnd.ev,tget_puts]) (fun hlt=>W.skip ?_) (fun hge=>W.exit ?_))
 rotate_left
 ·have:i = n:=by omega
  subst this
  exact ⟨by trivial,by trivial,v,by simp only [tget_puts,Nat.reduceLT,Nat.reduceEqDiff,↓reduceIte,h3],hG,hk⟩
 simp only [andThen]
 have hnn:=hk.nx
 obtain ⟨u,f1,f2⟩:=hr i hlt
 have f1':hload H tb (0 + i) = some u:=by
  unfold hload at f1 ⊢
  rw [hk.get tb htb]
  exact f1
 have f3:=(f2.keep hk (Nat.le_refl _)).reads
 have hrr:Reads H0.nx.toNat H u (intVals (rowZ es (Int.ofNat i))):=f2.reads.keep hk (Nat.le_refl _)
 have hlr:=IReads.fLen hrr
 refine W.seq (W.block (W.seq (W.region ?_)))
 simp (maxDischargeDepth:=9) only [auW,auC,auT,lget,BEq.rfl,beq_self_eq_true,decide_true,decide_false,reduceCtorEq,Nat.reduceLT,Nat.reduceEqDiff,↓reduceIte,g39r4,h11,h13,idx_row hlt,f1']
 simp only [andThen]
 refine W.seq (W.region ?_)
 simp (maxDischargeDepth:=9) only [auW,auC,auT,lget,BEq.rfl,beq_self_eq_true,decide_true,decide_false,reduceCtorEq,Nat.reduceLT,Nat.reduceEqDiff,↓reduceIte,g39r5,hlr]
 simp only [andThen]
 have hpl:=pairsN_length es i
 have hrl:=rowZ_length es (Int.ofNat i)
 have hml:i * es.length≤1000 * 100000:=Nat.mul_le_mul (by omega) hel
 refine W.block (W.mono (pairs_in (t0:=_) (ps0:=pairsN es i) (u:=i) hrr (Nat.le_refl _) hnn (by omega) (by omega) (rowZ es (Int.ofNat i)).length _ _ ⟨0,v,by omega,?_,?_,?_,?_,?_,?_,Keep.refl _ _,Pres.refl _ _⟩) ?_)
 ·simp only [tget_puts,Nat.reduceLT,Nat.reduceEqDiff,↓reduceIte,h3]
 ·simp only [tget_puts,Nat.reduceLT,Nat.reduceEqDiff,↓reduceIte]
 ·simp only [tget_puts,Nat.reduceLT,Nat.reduceEqDiff,↓reduceIte]
 ·simp only [tget_puts,Nat.reduceLT,Nat.reduceEqDiff,↓reduceIte]
 ·simp only [tget_puts,Nat.reduceLT,Nat.reduceEqDiff,↓reduceIte]
 ·simpa [pairsU] using hG
 rintro e ⟨t',ds⟩ H2 ⟨rfl,hd,v2,q3,G2,k2,p2⟩
 have hd:ds = []:=hd
 subst hd
 have q11:tget t' (Pos.ofNat 11) = .sl tb 0 n n 0:=by rw [p2 11 (by simp)]; simp only [tget_puts,Nat.reduceLT,Nat.reduceEqDiff,↓reduceIte,h11]
 have q12:tget t' (Pos.ofNat 12) = .int .i64 (.ofNat n):=by rw [p2 12 (by simp)]; simp only [tget_puts,Nat.reduceLT,Nat.reduceEqDiff,↓reduceIte,h12]
 have q13:tget t' (Pos.ofNat 13) = .int .i64 (.ofNat i):=by rw [p2 13 (by simp)]; simp only [tget_puts,Nat.reduceLT,Nat.reduceEqDiff,↓reduceIte,h13]
 have q3:tget t' (Pos.ofNat 3) = v2:=q3
 simp only [andThen,inBlock,beq_t]
 refine W.region ?_
 simp (maxDischargeDepth:=9) only [auW,auC,auT,lget,BEq.rfl,beq_self_eq_true,decide_true,decide_false,reduceCtorEq,Nat.reduceLT,Nat.reduceEqDiff,↓reduceIte,g39r12,q13,b_add (show i + 1≤9223372036854775807 by omega)]
 refine ⟨by trivial,q - 1,by omega,i + 1,v2,by omega,?_,?_,?_,?_,G2,hk.trans k2⟩
 ·simp only [tget_puts,Nat.reduceLT,Nat.reduceEqDiff,↓reduceIte,q3]
 ·simp only [tget_puts,Nat.reduceLT,Nat.reduceEqDiff,↓reduceIte,q11]
 ·simp only [tget_puts,Nat.reduceLT,Nat.reduceEqDiff,↓reduceIte,q12]
 ·simp only [tget_puts,Nat.reduceLT,Nat.reduceEqDiff,↓reduceIte]
theorem gpairs_ok (C:CodeOkC E) {N n:Nat} {H:AHeap} {v:AVal} {es:List Trp} (h:GraphH N H v n es) (hn:n≤1000) (hel:es.length≤100000) :
  ∃ w H',CallS E 39 [v] H w H'∧PReads H'.nx.toNat H' w (pairsN es n)∧Keep H.nx.toNat H H':=by
 obtain ⟨g,m,tb,rfl,f0,f1,f2,f3⟩:=h.fields
 have htb:tb.toNat < H.nx.toNat:=by
  obtain ⟨_,g',m',tb',vs,e0,og,_,_,_,_,_,_,h9,_⟩:=h
  cases e0
  rw [hload_at og (by simp)] at f2
  cases f2
  exact h9
 refine CallS.by (R:=fun w H'=>PReads H'.nx.toNat H' w (pairsN es n)∧Keep H.nx.toNat H H') (t0:=tput .l (some (Pos.ofNat 0)) (.ptr g 0)) (C.s _ rfl) rfl C.f39 rfl ?_
 refine W.seq (W.region ?_)
 simp (maxDischargeDepth:=9) only [auW,auC,auT,lget,BEq.rfl,beq_self_eq_true,decide_true,decide_false,reduceCtorEq,Nat.reduceLT,Nat.reduceEqDiff,↓reduceIte,g39r0]
 refine W.seq (W.region ?_)
 simp (maxDischargeDepth:=9) only [auW,auC,auT,lget,BEq.rfl,beq_self_eq_true,decide_true,decide_false,reduceCtorEq,Nat.reduceLT,Nat.reduceEqDiff,↓reduceIte,g39r1]
 have hl:fLen H 1 (.sl tb 0 n n 0) = some (.int .i64 (.ofNat n)):=rfl
 simp only [andThen]
 refine W.seq (W.seq (W.region ?_))
 simp (maxDischargeDepth:=9) only [auW,auC,auT,lget,BEq.rfl,beq_self_eq_true,decide_true,decide_false,reduceCtorEq,Nat.reduceLT,Nat.reduceEqDiff,↓reduceIte,g39r2,f2,hl]
 simp only [andThen]
 refine W.block (W.mono (pairs_out f3 htb hn hel n _ _ ⟨0,.snil,by omega,?_,?_,?_,?_,GN.nil,Keep.refl _ _⟩) ?_)
 ·simp only [tget_puts,Nat.reduceLT,Nat.reduceEqDiff,↓reduceIte]
 ·simp only [tget_puts,Nat.reduceLT,Nat.reduceEqDiff,↓reduceIte]
 ·simp only [tget_puts,Nat.reduceLT,Nat.reduceEqDiff,↓reduceIte]
 ·simp only [tget_puts,Nat.reduceLT,Nat.reduceEqDiff,↓reduceIte]
 rintro e ⟨t',ds⟩ H2 ⟨rfl,hd,v2,q3,G2,k2⟩
 have hd:ds = []:=hd
 subst hd
 have q3:tget t' (Pos.ofNat 3) = v2:=q3
 simp only [andThen,inBlock,beq_t]
 refine W.seq (W.region ?_)
 simp (maxDischargeDepth:=9) only [auW,auC,auT,lget,BEq.rfl,beq_self_eq_true,decide_true,decide_false,reduceCtorEq,Nat.reduceLT,Nat.reduceEqDiff,↓reduceIte,g39r14,q3]
 refine W.ret ⟨.inr rfl,rfl,v2,?_,G2.preads,k2⟩
 simp [resultA,g39,tget_puts]
theorem psame_loop {N:Nat} {H:AHeap} {x y:AVal} {ps:List Prr} (hx:PReads N H x ps) (hy:PReads N H y ps) (hl:ps.length≤1073741824) {ro:Option Pos} :
  ∀ (n:Nat) (t:PT AVal) (H1:AHeap),(∃ i,i + n = ps.length∧tget t (Pos.ofNat 0) = x∧tget t (Pos.ofNat 1) = y∧tget t (Pos.ofNat 5) = .int .i64 (.ofNat i)∧H1 = H) →
  W E (.loop g38l8) ro ⟨t,[]⟩ H1 (fun e a H'=>e = .exit 0∧a.ds = []∧H' = H):=by
 refine W.loop_inv (Q:=fun e a H'=>e = .exit 0∧a.ds = []∧H' = H) _ ?_
 rintro n t H1 ⟨i,hi,h0,h1,h5,rfl⟩
 refine W.seq (W.seq (W.region ?_))
 simp (maxDischargeDepth:=9) only [auW,auC,auT,lget,BEq.rfl,beq_self_eq_true,decide_true,decide_false,reduceCtorEq,Nat.reduceLT,Nat.reduceEqDiff,↓reduceIte,g38r4,h0,h5,hx.fLen]
 refine W.cond_if (p:=i < ps.length) (by simp [AOpnd.ev,tget_puts]) (fun hlt=>W.skip ?_) (fun hge=>W.exit ?_)
 rotate_left
 ·exact ⟨by trivial,by trivial,by trivial⟩
 simp only [andThen]
 obtain ⟨bx,ox,e1,e2,_⟩:=hx.fIdx hlt
 obtain ⟨b',o',f1,f2,_⟩:=hy.fIdx hlt
 obtain ⟨l0,l1⟩:=pcell_at e2
 obtain ⟨m0,m1⟩:=pcell_at f2
 refine W.seq (W.block (W.seq (W.draw ?_)))
 simp (maxDischargeDepth:=9) only [auD,auC,auT,lget,BEq.rfl,beq_self_eq_true,decide_true,decide_false,reduceCtorEq,Nat.reduceLT,Nat.reduceEqDiff,↓reduceIte,g38d5,h0,h1,h5,e1,f1,l0,l1,m0,m1,eq_self]
 simp only [andThen]
 refine W.cond_false (by simp [AOpnd.ev,tget_puts]) (W.skip ?_)
 simp only [andThen,inBlock]
 refine W.region ?_
 simp (maxDischargeDepth:=9) only [auW,auC,auT,lget,BEq.rfl,beq_self_eq_true,decide_true,decide_false,reduceCtorEq,Nat.reduceLT,Nat.reduceEqDiff,↓reduceIte,g38r7,h5,b_add (show i + 1≤9223372036854775807 by omega)]
 refine ⟨by trivial,n - 1,by omega,i + 1,by omega,?_,?_,?_,by trivial⟩
 ·simp only [tget_puts,Nat.reduceLT,Nat.reduceEqDiff,↓reduceIte,h0]
 ·simp only [tget_puts,Nat.reduceLT,Nat.reduceEqDiff,↓reduceIte,h1]
 ·simp only [tget_puts,Nat.reduceLT,Nat.reduceEqDiff,↓reduceIte]
theorem psame_ok (C:CodeOkC E) {N:Nat} {H:AHeap} {x y:AVal} {ps:List Prr} (hx:PReads N H x ps) (hy:PReads N H y ps) (hl:ps.length≤1073741824) :CallS E 38 [x,y] H (.bool true) H:=by
 suffices h:∃ v H',CallS E 38 [x,y] H v H'∧v = .bool true∧H' = H by obtain ⟨v,H',h,rfl,rfl⟩:=h; exact h
 refine CallS.by (R:=fun v H'=>v = .bool true∧H' = H) (t0:=tput (tput .l (some (Pos.ofNat 0)) x) (some (Pos.ofNat 1)) y) (C.s _ rfl) rfl C.f38 rfl ?_
 refine W.seq (W.region ?_)
 simp (maxDischargeDepth:=9) only [auW,auC,auT,lget,BEq.rfl,beq_self_eq_true,decide_true,decide_false,reduceCtorEq,Nat.reduceLT,Nat.reduceEqDiff,↓reduceIte,g38r0]
 refine W.seq (W.seq (W.region ?_))
 simp (maxDischargeDepth:=9) only [auW,auC,auT,lget,BEq.rfl,beq_self_eq_true,decide_true,decide_false,reduceCtorEq,Nat.reduceLT,Nat.reduceEqDiff,↓reduceIte,g38r1,hx.fLen,hy.fLen]
 refine W.cond_false (by simp [AOpnd.ev,tget_puts]) (W.skip ?_)
 simp only [andThen]
 refine W.seq (W.seq (W.region ?_))
 simp (maxDischargeDepth:=9) only [auW,auC,auT,lget,BEq.rfl,beq_self_eq_true,decide_true,decide_false,reduceCtorEq,Nat.reduceLT,Nat.reduceEqDiff,↓reduceIte,g38r3]
 refine W.block (W.mono (psame_loop hx hy hl ps.length _ _ ⟨0,by omega,?_,?_,?_,rfl⟩) ?_)
 ·simp only [tget_puts,Nat.reduceLT,Nat.reduceEqDiff,↓reduceIte]
 ·simp only [tget_puts,Nat.reduceLT,Nat.reduceEqDiff,↓reduceIte]
 ·simp only [tget_puts,Nat.reduceLT,Nat.reduceEqDiff,↓reduceIte]
 rintro e ⟨t',ds⟩ H' ⟨rfl,hd,rfl⟩
 have hd:ds = []:=hd
 subst hd
 simp only [andThen,inBlock,beq_t]
 refine W.seq (W.region ?_)
 simp (maxDischargeDepth:=9) only [auW,auC,auT,lget,BEq.rfl,beq_self_eq_true,decide_true,decide_false,reduceCtorEq,Nat.reduceLT,Nat.reduceEqDiff,↓reduceIte,g38r9]
 refine W.ret ⟨.inr rfl,rfl,.bool true,?_,rfl,rfl⟩
 simp [resultA,g38,tget_puts]
theorem graphs_ok (C:CodeOkC E) {N M n:Nat} {H:AHeap} {v v':AVal} {a b:List Trp} (h:GraphH N H v n a) (h':GraphH M H v' n b) (hs:∀ u,u < n→rowZ a (Int.ofNat u) = rowZ b (Int.ofNat u)) (hn:n≤1000) (ha:a.length≤100000) (hb:b.length≤100000) :
  ∃ H',CallS E 12 [v,v'] H (.bool true) H'∧Keep H.nx.toNat H H':=by
 suffices k:∃ w H',CallS E 12 [v,v'] H w H'∧w = .bool true∧Keep H.nx.toNat H H' by obtain ⟨w,H',k,rfl,k2⟩:=k; exact ⟨H',k,k2⟩
 obtain ⟨g,m,tb,rfl,_⟩:=h.fields
 obtain ⟨g',m',tb',rfl,_⟩:=h'.fields
 have c1:=n_ok C h
 have c2:=n_ok C h'
 obtain ⟨p1,H1,c3,r1,k1⟩:=gpairs_ok C h hn ha
 have hk1:=k1.nx
 obtain ⟨p2,H2,c4,r2,k2⟩:=gpairs_ok C (h'.keep k1 (Nat.le_refl _)) hn hb
 have hk2:=k2.nx
 rw [← pairsN_same hs n (Nat.le_refl _)] at r2
 have hpl:=pairsN_length a n
 have hml:n * a.length≤1000 * 100000:=Nat.mul_le_mul hn ha
 have c5:=psame_ok C (N:=H2.nx.toNat) ((r1.keep k2 (Nat.le_refl _)).mono hk2) r2 (by omega)
 refine CallS.by (R:=fun w H'=>w = .bool true∧Keep H.nx.toNat H H') (t0:=tput (tput .l (some (Pos.ofNat 0)) (.ptr g 0)) (some (Pos.ofNat 1)) (.ptr g' 0)) (C.s _ rfl) rfl C.f12 rfl ?_
 refine W.seq (W.region ?_)
 simp (maxDischargeDepth:=9) only [auW,auC,auT,lget,BEq.rfl,beq_self_eq_true,decide_true,decide_false,reduceCtorEq,Nat.reduceLT,Nat.reduceEqDiff,↓reduceIte,g12r0]
 refine W.seq (W.seq (W.region ?_))
 simp (maxDischargeDepth:=9) only [auW,auC,auT,lget,BEq.rfl,beq_self_eq_true,decide_true,decide_false,reduceCtorEq,Nat.reduceLT,Nat.reduceEqDiff,↓reduceIte,g12r1,eq_ptr_no,fEq]
 simp only [andThen]
 refine W.cond_false (by simp [AOpnd.ev,tget_puts]) (W.skip ?_)
 simp only [andThen]
 refine W.seq (W.region ?_)
 simp (maxDischargeDepth:=9) only [auW,auC,auT,lget,BEq.rfl,beq_self_eq_true,decide_true,decide_false,reduceCtorEq,Nat.reduceLT,Nat.reduceEqDiff,↓reduceIte,g12r3]
 refine wo_callE (c1) (by simp only [auT,Nat.reduceLT,Nat.reduceEqDiff,↓reduceIte]) ?_
 simp (maxDischargeDepth:=9) only [auW,auC,auT,lget,BEq.rfl,beq_self_eq_true,decide_true,decide_false,reduceCtorEq,Nat.reduceLT,Nat.reduceEqDiff,↓reduceIte]
 refine wo_callE (c2) (by simp only [auT,Nat.reduceLT,Nat.reduceEqDiff,↓reduceIte]) ?_
 simp (maxDischargeDepth:=9) only [auW,auC,auT,lget,BEq.rfl,beq_self_eq_true,decide_true,decide_false,reduceCtorEq,Nat.reduceLT,Nat.reduceEqDiff,↓reduceIte,eq_self]
 refine wo_callE (c3) (by simp only [auT,Nat.reduceLT,Nat.reduceEqDiff,↓reduceIte]) ?_
 simp (maxDischargeDepth:=9) only [auW,auC,auT,lget,BEq.rfl,beq_self_eq_true,decide_true,decide_false,reduceCtorEq,Nat.reduceLT,Nat.reduceEqDiff,↓reduceIte]
 refine wo_callE (c4) (by simp only [auT,Nat.reduceLT,Nat.reduceEqDiff,↓reduceIte]) ?_
 simp (maxDischargeDepth:=9) only [auW,auC,auT,lget,BEq.rfl,beq_self_eq_true,decide_true,decide_false,reduceCtorEq,Nat.reduceLT,Nat.reduceEqDiff,↓reduceIte]
 refine wo_callE (c5) (by simp only [auT,Nat.reduceLT,Nat.reduceEqDiff,↓reduceIte]) ?_
 simp (maxDischargeDepth:=9) only [auW,auC,auT,lget,BEq.rfl,beq_self_eq_true,decide_true,decide_false,reduceCtorEq,Nat.reduceLT,Nat.reduceEqDiff,↓reduceIte]
 refine W.ret ⟨.inr rfl,rfl,.bool true,?_,rfl,k1.trans (k2.mono hk1)⟩
 simp [resultA,g12,tget_puts]
end
end Go.Am
end

section
namespace Go.Am
open Go Go.RowKit
theorem GN.sm {k N:Nat} {H:AHeap} {v:AVal} {n:Nat} {cs:List AVal} (h:GN k N H v n cs) :same v v = true:=by
 obtain ⟨_,⟨rfl,_⟩ | ⟨b,rfl,_⟩⟩:=h
 ·exact same_snil
 ·exact same_sl _ _ _ _ _
theorem PReads.sm {n:Nat} {H:AHeap} {v:AVal} {ps:List Prr} (h:PReads n H v ps) :same v v = true:=by
 rcases h with ⟨rfl,_⟩ | ⟨b,o,cap,sz,rfl,_⟩
 ·exact same_snil
 ·exact same_sl _ _ _ _ _
theorem TReads.sm {n:Nat} {H:AHeap} {v:AVal} {ts:List Trp} (h:TReads n H v ts) :same v v = true:=by
 rcases h with ⟨rfl,_⟩ | ⟨b,o,cap,sz,rfl,_⟩
 ·exact same_snil
 ·exact same_sl _ _ _ _ _
theorem GN.scal {k N:Nat} {H:AHeap} {v:AVal} {n:Nat} {cs:List AVal} (h:GN k N H v n cs) :isScal v = true:=by
 obtain ⟨_,⟨rfl,_⟩ | ⟨b,rfl,_⟩⟩:=h <;> rfl
theorem GN.upd {k N:Nat} {H:AHeap} {v:AVal} {n:Nat} {cs l:List AVal} {p:Pos} {o:AObj} (h:GN k N H v n cs) (hp:PT.get p H.t = some (.cells l false false)) :GN k N (H.upd p o) v n cs:=by
 obtain ⟨h0,h | ⟨b,e,h1,h2,h3⟩⟩:=h
 ·exact ⟨h0,.inl h⟩
 ·refine ⟨h0,.inr ⟨b,e,?_,h2,h3⟩⟩
  rw [get_upd_other (fun e=>by rw [e,h1] at hp; simp at hp)]
  exact h1
def Town (H:AHeap) (pt:Pos) (nn:Nat) (a:List AVal) :Prop:=PT.get pt H.t = some (.cells (.int .i64 (.ofNat nn) :: a) false false)∧a.length = 6∧pt.toNat < H.nx.toNat
theorem Town.keep {H H':AHeap} {pt:Pos} {nn:Nat} {a:List AVal} (h:Town H pt nn a) {K:Nat} (k:Keep K H H') (hK:pt.toNat < K) :Town H' pt nn a:=⟨by rw [k.get pt hK]; exact h.1,h.2.1,Nat.lt_of_lt_of_le h.2.2 k.nx⟩
theorem Town.ld0 {H:AHeap} {pt:Pos} {nn:Nat} {a:List AVal} (h:Town H pt nn a) :hload H pt (0 + 0) = some (.int .i64 (.ofNat nn)):=by rw [hload_at h.1 (by simp)]; rfl
theorem Town.ld {H:AHeap} {pt:Pos} {nn:Nat} {a:List AVal} (h:Town H pt nn a) {i:Nat} {v:AVal} (hv:a[i]? = some v) :hload H pt (0 + (i + 1)) = some v:=by
 have hi:=(List.getElem?_eq_some_iff.1 hv)
 obtain ⟨h1,h2⟩:=hi
 rw [hload_at h.1 (by simp; omega)]
 simp [h2]
theorem Town.st {H:AHeap} {pt:Pos} {nn:Nat} {a:List AVal} (h:Town H pt nn a) {i:Nat} (hi:i < 6) {v:AVal} (hv:isScal v = true) :∃ H',hstoreN H pt (0 + (i + 1)) [v] = some H'∧H' = H.upd pt (.cells (.int .i64 (.ofNat nn) :: a.set i v) false false)∧Town H' pt nn (a.set i v)∧H'.nx = H.nx:=by
 refine ⟨_,?_,rfl,⟨get_upd,by simp [h.2.1],h.2.2⟩,rfl⟩
 unfold hstoreN
 rw [h.1,Nat.zero_add]
 have:allScal [v] = true:=by simp [allScal,hv]
 have hl:i + 1 < (AVal.int .i64 (.ofNat nn) :: a).length:=by have:=h.2.1; simp; omega
 simp only [this,set_list _ _ hl]
 rfl
theorem GraphH.upd {N n nn:Nat} {H:AHeap} {v:AVal} {es:List Trp} {pt:Pos} {a:List AVal} {o:AObj} (h:GraphH N H v n es) (ht:Town H pt nn a) :GraphH N (H.upd pt o) v n es:=by
 obtain ⟨ho,g,m,tb,vs,h1,h2,h3,h4,h5,h6,h7,h8,h9,h10⟩:=h
 obtain ⟨t1,t2,t3⟩:=ht
 have u:∀ p,p ≠ pt→PT.get p (H.upd pt o).t = PT.get p H.t:=fun p hp=>get_upd_other (fun e=>hp e.symm)
 have hg:g ≠ pt:=fun e=>by
  rw [e,t1] at h2
  have h2:=Option.some.inj h2
  simp only [AObj.cells.injEq] at h2
  have:=congrArg List.length h2.1
  simp at this
  omega
 have ht:tb ≠ pt:=fun e=>by
  rw [e,t1] at h3
  have h3:=Option.some.inj h3
  simp only [AObj.cells.injEq] at h3
  have h3:=h3.1
  have hn:0 < n:=by rw [← h5,← h3]; simp
  obtain ⟨w,e1,e2⟩:=h6 0 hn
  rw [← h3] at e1
  simp at e1
  subst e1
  rcases e2 with ⟨e2,_⟩ | ⟨b,e2,_⟩ <;> cases e2
 have hm:m ≠ pt:=fun e=>by rw [e,t1] at h4; cases h4
 refine ⟨ho,g,m,tb,vs,h1,by rw [u g hg]; exact h2,by rw [u tb ht]; exact h3,by rw [u m hm]; exact h4,h5,fun i hi=>?_,h7,h8,h9,h10⟩
 obtain ⟨w,e1,e2⟩:=h6 i hi
 refine ⟨w,e1,?_⟩
 rcases e2 with e2 | ⟨b,e2,e3,e4⟩
 ·exact .inl e2
 ·refine .inr ⟨b,e2,?_,e4⟩
  rw [u b (fun e=>by rw [e,t1] at e3; simp at e3)]
  exact e3
section
variable {E:Env}
theorem fl1 (C:CodeOkC E) {K:Nat} {H0:AHeap} {xp:AVal} {pl:List Prr} (hx:PReads K H0 xp pl) (hK:K≤H0.nx.toNat) {pt:Pos} {nn:Nat} {a:List AVal} (ht:Town H0 pt nn a) (hnn:nn < 80) {t0:PT AVal} {ro:Option Pos} :
  ∀ (q:Nat) (t:PT AVal) (H:AHeap),(∃ i v ps,i + q = 2000∧tget t (Pos.ofNat 1) = xp∧tget t (Pos.ofNat 10) = .ptr pt 0∧tget t (Pos.ofNat 11) = v∧tget t (Pos.ofNat 12) = .int .i64 (.ofNat i)∧GN 2 H0.nx.toNat H v ps.length (pairVals ps)∧ps.length = i∧(∀ t ∈ ps.map addT,Within nn t)∧Keep H0.nx.toNat H0 H∧Pres [2,3] t0 t) →
  W E (.loop g5l7) ro ⟨t,[]⟩ H (fun e a' H'=>e = .exit 0∧a'.ds = []∧∃ v ps,tget a'.t (Pos.ofNat 10) = .ptr pt 0∧tget a'.t (Pos.ofNat 11) = v∧GN 2 H0.nx.toNat H' v ps.length (pairVals ps)∧ps.length≤2000∧(∀ t ∈ ps.map addT,Within nn t)∧Keep H0.nx.toNat H0 H'∧Pres [2,3] t0 a'.t):=by
 refine W.loop_inv (Q:=fun e a' H'=>e = .exit 0∧a'.ds = []∧∃ v ps,tget a'.t (Pos.ofNat 10) = .ptr pt 0∧tget a'.t (Pos.ofNat 11) = v∧GN 2 H0.nx.toNat H' v ps.length (pairVals ps)∧ps.length≤2000∧(∀ t ∈ ps.map addT,Within nn t)∧Keep H0.nx.toNat H0 H'∧Pres [2,3] t0 a'.t) _ ?_
 rintro q t H ⟨i,v,ps,hi,h1,h10,h11,h12,hG,hpl,hW,hk,hp⟩
 have hnx:=hk.nx
 have hT:=ht.keep hk ht.2.2
 have l0:=hT.ld0
 have hxl:=(hx.keep hk hK).fLen
 have hout:∀ t':PT AVal,tget t' (Pos.ofNat 10) = .ptr pt 0→tget t' (Pos.ofNat 11) = v→Pres [2,3] t0 t'→∃ v ps,tget t' (Pos.ofNat 10) = .ptr pt 0∧tget t' (Pos.ofNat 11) = v∧GN 2 H0.nx.toNat H v ps.length (pairVals ps)∧ps.length≤2000∧(∀ t ∈ ps.map addT,Within nn t)∧Keep H0.nx.toNat H0 H∧Pres [2,3] t0 t':=fun t' e1 e2 e3=>⟨v,ps,e1,e2,hG,by omega,hW,hk,e3⟩
 by_cases hlt:i < pl.length
 rotate_left
 ·refine W.seq (W.seq (W.region ?_))
  simp (maxDischargeDepth:=9) only [auW,auC,auT,lget,BEq.rfl,beq_self_eq_true,decide_true,decide_false,reduceCtorEq,Nat.reduceLT,Nat.reduceEqDiff,↓reduceIte,g5r4,h1,h10,h12,hxl,hlt,l0]
  simp only [andThen]
  refine W.cond_false (by simp [AOpnd.ev,tget_puts]) (W.exit ⟨by trivial,by trivial,hout _ (by simp only [tget_puts,Nat.reduceLT,Nat.reduceEqDiff,↓reduceIte,h10]) (by simp only [tget_puts,Nat.reduceLT,Nat.reduceEqDiff,↓reduceIte,h11]) ?_⟩)
  try dsimp only
  repeat (first | refine Pres.put ?_ (by decide) (by decide) | exact hp)
 by_cases hl2:i < 2000
 rotate_left
 ·refine W.seq (W.seq (W.region ?_))
  simp (maxDischargeDepth:=9) only [auW,auC,auT,lget,BEq.rfl,beq_self_eq_true,decide_true,decide_false,reduceCtorEq,Nat.reduceLT,Nat.reduceEqDiff,↓reduceIte,g5r4,h1,h10,h12,hxl,hlt,hl2,l0]
  simp only [andThen]
  refine W.cond_false (by simp [AOpnd.ev,tget_puts]) (W.exit ⟨by trivial,by trivial,hout _ (by simp only [tget_puts,Nat.reduceLT,Nat.reduceEqDiff,↓reduceIte,h10]) (by simp only [tget_puts,Nat.reduceLT,Nat.reduceEqDiff,↓reduceIte,h11]) ?_⟩)
  try dsimp only
  repeat (first | refine Pres.put ?_ (by decide) (by decide) | exact hp)
 by_cases hn0:0 < nn
 rotate_left
 ·refine W.seq (W.seq (W.region ?_))
  simp (maxDischargeDepth:=9) only [auW,auC,auT,lget,BEq.rfl,beq_self_eq_true,decide_true,decide_false,reduceCtorEq,Nat.reduceLT,Nat.reduceEqDiff,↓reduceIte,g5r4,h1,h10,h12,hxl,hlt,hl2,hn0,l0]
  simp only [andThen]
  refine W.cond_false (by simp [AOpnd.ev,tget_puts]) (W.exit ⟨by trivial,by trivial,hout _ (by simp only [tget_puts,Nat.reduceLT,Nat.reduceEqDiff,↓reduceIte,h10]) (by simp only [tget_puts,Nat.reduceLT,Nat.reduceEqDiff,↓reduceIte,h11]) ?_⟩)
  try dsimp only
  repeat (first | refine Pres.put ?_ (by decide) (by decide) | exact hp)
 refine W.seq (W.seq (W.region ?_))
 simp (maxDischargeDepth:=9) only [auW,auC,auT,lget,BEq.rfl,beq_self_eq_true,decide_true,decide_false,reduceCtorEq,Nat.reduceLT,Nat.reduceEqDiff,↓reduceIte,g5r4,h1,h10,h12,hxl,hlt,hl2,hn0,l0]
 simp only [andThen]
 refine W.cond_true (by simp [AOpnd.ev,tget_puts]) (W.skip ?_)
 simp only [andThen]
 obtain ⟨b,o,e1,e2,hbN⟩:=(hx.keep hk hK).fIdx hlt
 obtain ⟨m0,m1⟩:=pcell_at e2
 obtain ⟨j,hj,cj⟩:=in_ok C (H:=H) pl[i].1 hn0 (by omega)
 obtain ⟨k,hk',ck⟩:=in_ok C (H:=H) pl[i].2 hn0 (by omega)
 have hsv:=hG.sm
 have hsx:=hx.sm
 obtain ⟨v2,H2,c2,G2,F2⟩:=append_pair hG hnx (Int.ofNat j,Int.ofNat k) (by omega)
 refine W.seq (W.block (W.draw ?_))
 simp (maxDischargeDepth:=9) only [auD,auC,auT,lget,BEq.rfl,beq_self_eq_true,decide_true,decide_false,reduceCtorEq,Nat.reduceLT,Nat.reduceEqDiff,↓reduceIte,g5d5,h1,h10,h11,h12,l0,e1,m0,m1]
 refine wd_callK cj (by simp only [auT,Nat.reduceLT,Nat.reduceEqDiff,↓reduceIte]) ?_
 repeat (first | refine againK_skip rfl ?_ | refine againK_keep rfl (by simp only [auQ,auC,auT,BEq.rfl,Nat.reduceLT,Nat.reduceEqDiff,↓reduceIte,fNilCheck,fFieldAddr,fLoad1,q_extract,h1,h10,h11,h12,l0,e1,m0,m1]) (by simp only [sames,hsv,hsx]) ?_ | refine againK_nil ?_)
 try dsimp only
 refine wd_callK ck (by simp only [auT,Nat.reduceLT,Nat.reduceEqDiff,↓reduceIte]) ?_
 repeat (first | refine againK_skip rfl ?_ | refine againK_keep rfl (by simp only [auQ,auC,auT,BEq.rfl,Nat.reduceLT,Nat.reduceEqDiff,↓reduceIte,fNilCheck,fFieldAddr,fLoad1,q_extract,h1,h10,h11,h12,l0,e1,m0,m1]) (by simp only [sames,hsv,hsx]) ?_ | refine againK_nil ?_)
 try dsimp only
 refine wd_buildE (vs:=cell2 (Int.ofNat j,Int.ofNat k)) (by simp [fillA,AOpnd.ev,tget_puts,vcellsO,lput,lover]) ?_
 refine wd_buildSliceE (vs:=cell2 (Int.ofNat j,Int.ofNat k)) (by simp [fillA,AOpnd.ev,tget_puts,vcellsO,lput,lover]) ?_
 refine wd_appendK c2 (by simp only [auT,Nat.reduceLT,Nat.reduceEqDiff,↓reduceIte,h11]) (by simp only [auT,Nat.reduceLT,Nat.reduceEqDiff,↓reduceIte]) ?_
 repeat (first | refine againK_skip rfl ?_ | refine againK_keep rfl (by simp only [auQ,auC,auT,BEq.rfl,Nat.reduceLT,Nat.reduceEqDiff,↓reduceIte,fNilCheck,fFieldAddr,fLoad1,q_extract]) (by simp only [sames,hsv,hsx]) ?_ | refine againK_nil ?_)
 try dsimp only
 simp (maxDischargeDepth:=9) only [auD,auC,auT,lget,BEq.rfl,beq_self_eq_true,decide_true,decide_false,reduceCtorEq,Nat.reduceLT,Nat.reduceEqDiff,↓reduceIte]
 simp only [andThen,inBlock]
 refine W.region ?_
 simp (maxDischargeDepth:=9) only [auW,auC,auT,lget,BEq.rfl,beq_self_eq_true,decide_true,decide_false,reduceCtorEq,Nat.reduceLT,Nat.reduceEqDiff,↓reduceIte,g5r6,h12,b_add (show i + 1≤9223372036854775807 by omega)]
 refine ⟨by trivial,q - 1,by omega,i + 1,v2,ps ++ [(Int.ofNat j,Int.ofNat k)],by omega,?_,?_,?_,?_,G2,by simp; omega,?_,hk.trans (hG.keepFr hnx F2),?_⟩
 ·simp only [tget_puts,Nat.reduceLT,Nat.reduceEqDiff,↓reduceIte,h1]
 ·simp only [tget_puts,Nat.reduceLT,Nat.reduceEqDiff,↓reduceIte,h10]
 ·simp only [tget_puts,Nat.reduceLT,Nat.reduceEqDiff,↓reduceIte]
 ·simp only [tget_puts,Nat.reduceLT,Nat.reduceEqDiff,↓reduceIte]
 ·intro x hx'
  simp only [List.map_append,List.map_cons,List.map_nil,List.mem_append,List.mem_singleton] at hx'
  rcases hx' with hx' | rfl
  ·exact hW x hx'
  ·exact ⟨by show (0:Int)≤Int.ofNat j; simp,by show Int.ofNat j < (nn:Int); simp; omega,by show (0:Int)≤Int.ofNat k; simp,by show Int.ofNat k < (nn:Int); simp; omega⟩
 ·try dsimp only
  repeat (first | refine Pres.put ?_ (by decide) (by decide) | exact hp)
end
end Go.Am
end

section
namespace Go.Am
open Go Go.RowKit
theorem append_trip {N:Nat} {H:AHeap} {v:AVal} {ts:List Trp} (h:GN 3 N H v ts.length (tripVals ts)) (hN:N≤H.nx.toNat) (c:Trp) (hb:ts.length≤1000000000) :∃ v' H',appendA (H.new (.cells (cell3 c) false false)).2 3 24 v (.sl H.nx 0 1 1 0) = some (v',H')∧GN 3 N H' v' (ts ++ [c]).length (tripVals (ts ++ [c]))∧Fr v H v' H':=by
 have k1:Keep H.nx.toNat H (H.new (.cells (cell3 c) false false)).2:=keep_new
 have hn:(H.new (.cells (cell3 c) false false)).2.nx.toNat = H.nx.toNat + 1:=nx_new
 have hs:srcCells (H.new (.cells (cell3 c) false false)).2 3 (.sl H.nx 0 1 1 0) = some (1,cell3 c):=by
  unfold srcCells
  have:hloadN (H.new (.cells (cell3 c) false false)).2 H.nx 0 (Nat.mul 1 3) = some (cell3 c):=by
   unfold hloadN
   rw [get_new]
   rfl
  simp only [this]
 generalize (H.new (.cells (cell3 c) false false)).2 = H1 at k1 hs hn ⊢
 obtain ⟨v',H',e1,e2,e3⟩:=append_gn (by':=24) (by omega) (h.keep k1 (Nat.le_refl _)) (by omega) hs rfl rfl (by omega)
 refine ⟨v',H',e1,?_,(Fr.of_keep k1).trans e3⟩
 rw [tripVals_append,List.length_append]
 exact e2
theorem set3_get {a:List AVal} (h:a.length = 6) (v:AVal) :(a.set 3 v)[3]? = some v:=by simp [h]
section
variable {E:Env}
theorem fl2 (C:CodeOkC E) {K:Nat} {H0:AHeap} {xl:AVal} {tl:List Trp} (hx:TReads K H0 xl tl) {pt:Pos} (hK:K≤pt.toNat) {nn:Nat} {a:List AVal} (ht:Town H0 pt nn a) (hnn:nn < 80) {t0:PT AVal} {ro:Option Pos} :
  ∀ (q:Nat) (t:PT AVal) (H:AHeap),(∃ i v ts,i + q = 300∧tget t (Pos.ofNat 2) = xl∧tget t (Pos.ofNat 10) = .ptr pt 0∧tget t (Pos.ofNat 13) = .int .i64 (.ofNat i)∧Town H pt nn (a.set 3 v)∧GN 3 H0.nx.toNat H v ts.length (tripVals ts)∧ts.length = i∧(∀ t ∈ ts,Within nn t)∧H0.nx.toNat≤H.nx.toNat∧(∀ p,p.toNat < H0.nx.toNat→p ≠ pt→PT.get p H.t = PT.get p H0.t)∧Pres [3,11] t0 t) →
  W E (.loop g5l12) ro ⟨t,[]⟩ H (fun e a' H'=>e = .exit 2∧a'.ds = []∧∃ v ts,tget a'.t (Pos.ofNat 10) = .ptr pt 0∧Town H' pt nn (a.set 3 v)∧GN 3 H0.nx.toNat H' v ts.length (tripVals ts)∧ts.length≤300∧(∀ t ∈ ts,Within nn t)∧H0.nx.toNat≤H'.nx.toNat∧(∀ p,p.toNat < H0.nx.toNat→p ≠ pt→PT.get p H'.t = PT.get p H0.t)∧Pres [3,11] t0 a'.t):=by
 refine W.loop_inv (Q:=fun e a' H'=>e = .exit 2∧a'.ds = []∧∃ v ts,tget a'.t (Pos.ofNat 10) = .ptr pt 0∧Town H' pt nn (a.set 3 v)∧GN 3 H0.nx.toNat H' v ts.length (tripVals ts)∧ts.length≤300∧(∀ t ∈ ts,Within nn t)∧H0.nx.toNat≤H'.nx.toNat∧(∀ p,p.toNat < H0.nx.toNat→p ≠ pt→PT.get p H'.t = PT.get p H0.t)∧Pres [3,11] t0 a'.t) _ ?_
 rintro q t H ⟨i,v,ts,hi,h2,h10,h13,hT,hG,hpl,hW,hnx,hk,hp⟩
 have hptl:=ht.2.2
 have l0:=hT.ld0
 have l4:hload H pt (0 + 4) = some v:=hT.ld (i:=3) (set3_get ht.2.1 v)
 have hxH:TReads K H xl tl:=by
  rcases hx with h | ⟨b,o,cap,sz,e,h1,hb,h3⟩
  ·exact .inl h
  ·refine .inr ⟨b,o,cap,sz,e,?_,hb,h3⟩
   unfold hloadN at h1 ⊢
   rw [hk b (by omega) (fun e=>by rw [e] at hb; omega)]
   exact h1
 have hxl:=hxH.fLen
 have hout:∀ t':PT AVal,tget t' (Pos.ofNat 10) = .ptr pt 0→Pres [3,11] t0 t'→∃ v ts,tget t' (Pos.ofNat 10) = .ptr pt 0∧Town H pt nn (a.set 3 v)∧GN 3 H0.nx.toNat H v ts.length (tripVals ts)∧ts.length≤300∧(∀ t ∈ ts,Within nn t)∧H0.nx.toNat≤H.nx.toNat∧(∀ p,p.toNat < H0.nx.toNat→p ≠ pt→PT.get p H.t = PT.get p H0.t)∧Pres [3,11] t0 t':=fun t' e1 e2=>⟨v,ts,e1,hT,hG,by omega,hW,hnx,hk,e2⟩
 by_cases hlt:i < tl.length
 rotate_left
 ·refine W.seq (W.seq (W.region ?_))
  simp (maxDischargeDepth:=9) only [auW,auC,auT,lget,BEq.rfl,beq_self_eq_true,decide_true,decide_false,reduceCtorEq,Nat.reduceLT,Nat.reduceEqDiff,↓reduceIte,g5r9,h2,h10,h13,hxl,hlt,l0]
  simp only [andThen]
  refine W.cond_false (by simp [AOpnd.ev,tget_puts]) (W.exit ⟨by trivial,by trivial,hout _ (by simp only [tget_puts,Nat.reduceLT,Nat.reduceEqDiff,↓reduceIte,h10]) ?_⟩)
  try dsimp only
  repeat (first | refine Pres.put ?_ (by decide) (by decide) | exact hp)
 by_cases hl2:i < 300
 rotate_left
 ·refine W.seq (W.seq (W.region ?_))
  simp (maxDischargeDepth:=9) only [auW,auC,auT,lget,BEq.rfl,beq_self_eq_true,decide_true,decide_false,reduceCtorEq,Nat.reduceLT,Nat.reduceEqDiff,↓reduceIte,g5r9,h2,h10,h13,hxl,hlt,hl2,l0]
  simp only [andThen]
  refine W.cond_false (by simp [AOpnd.ev,tget_puts]) (W.exit ⟨by trivial,by trivial,hout _ (by simp only [tget_puts,Nat.reduceLT,Nat.reduceEqDiff,↓reduceIte,h10]) ?_⟩)
  try dsimp only
  repeat (first | refine Pres.put ?_ (by decide) (by decide) | exact hp)
 by_cases hn0:0 < nn
 rotate_left
 ·refine W.seq (W.seq (W.region ?_))
  simp (maxDischargeDepth:=9) only [auW,auC,auT,lget,BEq.rfl,beq_self_eq_true,decide_true,decide_false,reduceCtorEq,Nat.reduceLT,Nat.reduceEqDiff,↓reduceIte,g5r9,h2,h10,h13,hxl,hlt,hl2,hn0,l0]
  simp only [andThen]
  refine W.cond_false (by simp [AOpnd.ev,tget_puts]) (W.exit ⟨by trivial,by trivial,hout _ (by simp only [tget_puts,Nat.reduceLT,Nat.reduceEqDiff,↓reduceIte,h10]) ?_⟩)
  try dsimp only
  repeat (first | refine Pres.put ?_ (by decide) (by decide) | exact hp)
 refine W.seq (W.seq (W.region ?_))
 simp (maxDischargeDepth:=9) only [auW,auC,auT,lget,BEq.rfl,beq_self_eq_true,decide_true,decide_false,reduceCtorEq,Nat.reduceLT,Nat.reduceEqDiff,↓reduceIte,g5r9,h2,h10,h13,hxl,hlt,hl2,hn0,l0]
 simp only [andThen]
 refine W.cond_true (by simp [AOpnd.ev,tget_puts]) (W.skip ?_)
 simp only [andThen]
 obtain ⟨b,o,e1,e2,hbN⟩:=hxH.fIdx hlt
 obtain ⟨m0,m1,m2⟩:=cell_at e2
 obtain ⟨j,hj,cj⟩:=in_ok C (H:=H) tl[i].1 hn0 (by omega)
 obtain ⟨k,hk',ck⟩:=in_ok C (H:=H) tl[i].2.1 hn0 (by omega)
 have hsv:=hG.sm
 have hsx:=hx.sm
 obtain ⟨v2,H2,c2,G2,F2⟩:=append_trip hG hnx (Int.ofNat j,Int.ofNat k,tl[i].2.2) (by omega)
 have hn2:=F2.nx
 have hv:∀ p:Pos,p.toNat < H0.nx.toNat→rowBlk v ≠ some p:=fun p hp e=>by have:=(hG.blk e).1; omega
 have hT2:Town H2 pt nn (a.set 3 v):=⟨by rw [F2.get pt (by omega) (hv pt hptl)]; exact hT.1,hT.2.1,by omega⟩
 obtain ⟨H3,s3,rfl,hT3,hn3⟩:=hT2.st (i:=3) (by omega) G2.scal
 rw [List.set_set] at hT3 s3 hn3
 have hsc:vcellsO v2 = some [v2]:=vcells_scal G2.scal
 refine W.seq (W.block (W.draw ?_))
 simp (maxDischargeDepth:=9) only [auD,auC,auT,lget,BEq.rfl,beq_self_eq_true,decide_true,decide_false,reduceCtorEq,Nat.reduceLT,Nat.reduceEqDiff,↓reduceIte,g5d10,h2,h10,h13,l0,l4,e1,m0,m1,m2]
 refine wd_callK cj (by simp only [auT,Nat.reduceLT,Nat.reduceEqDiff,↓reduceIte]) ?_
 repeat (first | refine againK_skip rfl ?_ | refine againK_keep rfl (by simp only [auQ,auC,auT,BEq.rfl,Nat.reduceLT,Nat.reduceEqDiff,↓reduceIte,fNilCheck,fFieldAddr,fLoad1,q_extract,h2,h10,h13,l0,l4,e1,m0,m1,m2]) (by simp only [sames,hsv,hsx]) ?_ | refine againK_nil ?_)
 try dsimp only
 refine wd_callK ck (by simp only [auT,Nat.reduceLT,Nat.reduceEqDiff,↓reduceIte]) ?_
 repeat (first | refine againK_skip rfl ?_ | refine againK_keep rfl (by simp only [auQ,auC,auT,BEq.rfl,Nat.reduceLT,Nat.reduceEqDiff,↓reduceIte,fNilCheck,fFieldAddr,fLoad1,q_extract,h2,h10,h13,l0,l4,e1,m0,m1,m2]) (by simp only [sames,hsv,hsx]) ?_ | refine againK_nil ?_)
 try dsimp only
 refine wd_buildE (vs:=cell3 (Int.ofNat j,Int.ofNat k,tl[i].2.2)) (by simp [fillA,AOpnd.ev,tget_puts,vcellsO,lput,lover]) ?_
 refine wd_buildSliceE (vs:=cell3 (Int.ofNat j,Int.ofNat k,tl[i].2.2)) (by simp [fillA,AOpnd.ev,tget_puts,vcellsO,lput,lover]) ?_
 refine wd_appendK c2 (by simp only [auT,Nat.reduceLT,Nat.reduceEqDiff,↓reduceIte]) (by simp only [auT,Nat.reduceLT,Nat.reduceEqDiff,↓reduceIte]) ?_
 repeat (first | refine againK_skip rfl ?_ | refine againK_keep rfl (by simp only [auQ,auC,auT,BEq.rfl,Nat.reduceLT,Nat.reduceEqDiff,↓reduceIte,fNilCheck,fFieldAddr,fLoad1,q_extract,h10]) (by simp only [sames,hsv,hsx]) ?_ | refine againK_nil ?_)
 try dsimp only
 simp (maxDischargeDepth:=9) only [auD,auC,auT,lget,BEq.rfl,beq_self_eq_true,decide_true,decide_false,reduceCtorEq,Nat.reduceLT,Nat.reduceEqDiff,↓reduceIte]
 refine wd_storeK (b:=pt) (o:=0 + 4) (vs:=[v2]) (by simp only [auT,Nat.reduceLT,Nat.reduceEqDiff,↓reduceIte]) (by simp only [auT,Nat.reduceLT,Nat.reduceEqDiff,↓reduceIte]; exact hsc) rfl s3 ?_
 repeat (first | refine againK_skip rfl ?_ | refine againK_keep rfl (by simp only [auQ,auC,auT,BEq.rfl,Nat.reduceLT,Nat.reduceEqDiff,↓reduceIte,fNilCheck,fFieldAddr,fLoad1,q_extract]) (by simp only [sames,hsv,hsx]) ?_ | refine againK_nil ?_)
 try dsimp only
 simp (maxDischargeDepth:=9) only [auD,auC,auT,lget,BEq.rfl,beq_self_eq_true,decide_true,decide_false,reduceCtorEq,Nat.reduceLT,Nat.reduceEqDiff,↓reduceIte]
 simp only [andThen,inBlock]
 refine W.region ?_
 simp (maxDischargeDepth:=9) only [auW,auC,auT,lget,BEq.rfl,beq_self_eq_true,decide_true,decide_false,reduceCtorEq,Nat.reduceLT,Nat.reduceEqDiff,↓reduceIte,g5r11,h13,b_add (show i + 1≤9223372036854775807 by omega)]
 refine ⟨by trivial,q - 1,by omega,i + 1,v2,ts ++ [(Int.ofNat j,Int.ofNat k,tl[i].2.2)],by omega,?_,?_,?_,hT3,G2.upd hT2.1,by simp; omega,?_,by rw [hn3]; omega,fun p hp1 hp2=>?_,?_⟩
 ·simp only [tget_puts,Nat.reduceLT,Nat.reduceEqDiff,↓reduceIte,h2]
 ·simp only [tget_puts,Nat.reduceLT,Nat.reduceEqDiff,↓reduceIte,h10]
 ·simp only [tget_puts,Nat.reduceLT,Nat.reduceEqDiff,↓reduceIte]
 ·intro x hx'
  simp only [List.mem_append,List.mem_singleton] at hx'
  rcases hx' with hx' | rfl
  ·exact hW x hx'
  ·exact ⟨by show (0:Int)≤Int.ofNat j; simp,by show Int.ofNat j < (nn:Int); simp; omega,by show (0:Int)≤Int.ofNat k; simp,by show Int.ofNat k < (nn:Int); simp; omega⟩
 ·rw [get_upd_other (fun e=>hp2 e.symm),F2.get p (by omega) (hv p hp1)]
  exact hk p hp1 hp2
 ·try dsimp only
  repeat (first | refine Pres.put ?_ (by decide) (by decide) | exact hp)
end
end Go.Am
end
