/- Part of the proof: AmH16, AmH17, AmH18, AmH19. -/
import Derived.Test.YtaogphcjlkeakaaGreatDoorFn5
set_option linter.unusedSimpArgs false
set_option linter.unusedVariables false
section
namespace Go.Am
open Go Go.RowKit
theorem badd00:binOpA .add (.int .i64 (.ofNat 0)) (.int .i64 (.ofNat 0)) = some (.int .i64 (.ofNat 0)):=by rw [b_add (by omega)]
abbrev g5rest:ACode:=(.seq (.region g5r22) (.seq (.region g5r23) (.seq (.seq (.region g5r24) (.cond (.t (Pos.ofNat 193)) (.seq (.region g5r25) .ret) .skip)) (.seq (.draw g5d26) (.seq (.region g5r27) (.seq (.region g5r28) (.seq (.region g5r29) .ret)))))))
section
variable {E:Env}
theorem found_rest (C:CodeOkC E) (G:GrC E) {N M M2:Nat} {H:AHeap} {pt:Pos} {nn:Nat} {vc v1 v2:AVal} {ps:List Prr} {ts:List Trp} (hT:Town H pt nn [.pnil,.pnil,vc,v2,.snil,.snil]) (hnn:nn < 80) (g1:GN 2 M H v1 ps.length (pairVals ps)) (g2:GN 3 M2 H v2 ts.length (tripVals ts)) (w1:∀ t ∈ ps.map addT,Within nn t) (w2:∀ t ∈ ts,Within nn t) (b1:ps.length≤2000) (b2:ts.length≤300) (hN:N≤H.nx.toNat) {t:PT AVal} (h10:tget t (Pos.ofNat 10) = .ptr pt 0) (h11:tget t (Pos.ofNat 11) = v1) :
  W E g5rest none ⟨t,[]⟩ H (fun e a' H'=>e = .ret∧a'.ds = []∧tget a'.t (Pos.ofNat 8) = .ptr pt 0∧tget a'.t (Pos.ofNat 9) = .bool true∧∃ g h v5 v6,Town H' pt nn [g,h,vc,v2,v5,v6]∧GraphH N H' g nn (chAll [] (ps.map addT))∧GraphH N H' h nn (chAll (chAll [] (ps.map addT)) ts)∧TReads H'.nx.toNat H' v2 ts∧H.nx.toNat≤H'.nx.toNat∧(∀ p,p.toNat < H.nx.toNat→p ≠ pt→PT.get p H'.t = PT.get p H.t)):=by
 have hptl:=hT.2.2
 refine W.seq (W.region ?_)
 simp (maxDischargeDepth:=9) only [auW,auC,auT,lget,BEq.rfl,beq_self_eq_true,decide_true,decide_false,reduceCtorEq,Nat.reduceLT,Nat.reduceEqDiff,↓reduceIte,g5r22]
 try simp only [andThen]
 have l0:=hT.ld0
 obtain ⟨g,H1,c1,G1,k1⟩:=gmake_ok C G g1.preads (by omega) w1 (by omega) (Nat.le_refl _)
 have hn1:=k1.nx
 have T1:=hT.keep k1 hptl
 obtain ⟨gp,_,_,rfl,_⟩:=G1.fields
 obtain ⟨H2,s1,e2,T2,n2⟩:=T1.st (i:=0) (v:=.ptr gp 0) (by omega) rfl
 have n2:H2.nx.toNat = H1.nx.toNat:=by rw [n2]
 have G1':GraphH N H2 (.ptr gp 0) nn (chAll [] (ps.map addT)):=by rw [e2]; exact (G1.upd T1).mono hN
 have a1:GN 2 M H2 v1 ps.length (pairVals ps):=by rw [e2]; exact (g1.keep k1 (Nat.le_refl _)).upd T1.1
 have a2:GN 3 M2 H2 v2 ts.length (tripVals ts):=by rw [e2]; exact (g2.keep k1 (Nat.le_refl _)).upd T1.1
 have x2:∀ p,p.toNat < H.nx.toNat→p ≠ pt→PT.get p H2.t = PT.get p H.t:=fun p hp hne=>by rw [e2,get_upd_other (fun e=>hne e.symm),k1.get p hp]
 have T2:Town H2 pt nn [.ptr gp 0,.pnil,vc,v2,.snil,.snil]:=T2
 refine W.seq (W.region ?_)
 simp (maxDischargeDepth:=9) only [auW,auC,auT,lget,BEq.rfl,beq_self_eq_true,decide_true,decide_false,reduceCtorEq,Nat.reduceLT,Nat.reduceEqDiff,↓reduceIte,g5r23,h10,h11,l0]
 refine wo_callE (c1) (by simp only [auT,Nat.reduceLT,Nat.reduceEqDiff,↓reduceIte,h11]) ?_
 simp (maxDischargeDepth:=9) only [auW,auC,auT,lget,BEq.rfl,beq_self_eq_true,decide_true,decide_false,reduceCtorEq,Nat.reduceLT,Nat.reduceEqDiff,↓reduceIte,h10]
 refine wo_store (b:=pt) (o:=0 + 1) (vs:=[.ptr gp 0]) (by simp only [auT,Nat.reduceLT,Nat.reduceEqDiff,↓reduceIte]) (by simp only [auT,Nat.reduceLT,Nat.reduceEqDiff,↓reduceIte]; exact vcells_scal rfl) rfl s1 ?_
 simp (maxDischargeDepth:=9) only [auW,auC,auT,lget,BEq.rfl,beq_self_eq_true,decide_true,decide_false,reduceCtorEq,Nat.reduceLT,Nat.reduceEqDiff,↓reduceIte]
 try simp only [andThen]
 have m1:hload H2 pt (0 + 1) = some (.ptr gp 0):=T2.ld (i:=0) rfl
 have m4:hload H2 pt (0 + 4) = some v2:=T2.ld (i:=3) rfl
 refine W.seq (W.seq (W.region ?_))
 simp (maxDischargeDepth:=9) only [auW,auC,auT,lget,BEq.rfl,beq_self_eq_true,decide_true,decide_false,reduceCtorEq,Nat.reduceLT,Nat.reduceEqDiff,↓reduceIte,g5r24,h10,m1,eq_ptr_no,fEq]
 try simp only [andThen]
 refine W.cond_false (by simp [AOpnd.ev,tget_puts]) (W.skip ?_)
 try simp only [andThen]
 have hl1:=chAll_length (ps.map addT) []
 rw [List.length_map] at hl1
 simp only [List.length_nil] at hl1
 obtain ⟨h,H3,c3,G3,k3⟩:=G.ch G1' a2.treads w2 (by omega) (by omega) (by omega)
 have hn3:=k3.nx
 have T3:=T2.keep k3 (by omega)
 obtain ⟨hp,_,_,rfl,_⟩:=G3.fields
 obtain ⟨H4,s3,e4,T4,n4⟩:=T3.st (i:=1) (v:=.ptr hp 0) (by omega) rfl
 have n4:H4.nx.toNat = H3.nx.toNat:=by rw [n4]
 have G1'':GraphH N H4 (.ptr gp 0) nn (chAll [] (ps.map addT)):=by rw [e4]; exact (G1'.keep k3 (Nat.le_refl _)).upd T3
 have G3':GraphH N H4 (.ptr hp 0) nn (chAll (chAll [] (ps.map addT)) ts):=by rw [e4]; exact (G3.upd T3).mono (by omega)
 have a1:GN 2 M H4 v1 ps.length (pairVals ps):=by rw [e4]; exact (a1.keep k3 (Nat.le_refl _)).upd T3.1
 have a2:GN 3 M2 H4 v2 ts.length (tripVals ts):=by rw [e4]; exact (a2.keep k3 (Nat.le_refl _)).upd T3.1
 have x4:∀ p,p.toNat < H.nx.toNat→p ≠ pt→PT.get p H4.t = PT.get p H.t:=fun p hp hne=>by rw [e4,get_upd_other (fun e=>hne e.symm),k3.get p (by omega),x2 p hp hne]
 have T4:Town H4 pt nn [.ptr gp 0,.ptr hp 0,vc,v2,.snil,.snil]:=T4
 refine W.seq (W.draw ?_)
 simp (maxDischargeDepth:=9) only [auD,auC,auT,lget,BEq.rfl,beq_self_eq_true,decide_true,decide_false,reduceCtorEq,Nat.reduceLT,Nat.reduceEqDiff,↓reduceIte,g5d26,h10,m1,m4]
 refine wd_callK c3 (by simp only [auT,Nat.reduceLT,Nat.reduceEqDiff,↓reduceIte]) ?_
 repeat (first | refine againK_skip rfl ?_ | refine againK_keep rfl (by simp only [auQ,auC,auT,BEq.rfl,Nat.reduceLT,Nat.reduceEqDiff,↓reduceIte,fNilCheck,fFieldAddr,fLoad1,q_extract,fExtract,lget,h10]) (by simp only [sames]) ?_ | refine againK_nil ?_)
 try dsimp only
 simp (maxDischargeDepth:=9) only [auD,auC,auT,lget,BEq.rfl,beq_self_eq_true,decide_true,decide_false,reduceCtorEq,Nat.reduceLT,Nat.reduceEqDiff,↓reduceIte,h10]
 refine wd_storeK (b:=pt) (o:=0 + 2) (vs:=[.ptr hp 0]) (by simp only [auT,Nat.reduceLT,Nat.reduceEqDiff,↓reduceIte]) (by simp only [auT,Nat.reduceLT,Nat.reduceEqDiff,↓reduceIte]; rfl) rfl s3 ?_
 repeat (first | refine againK_skip rfl ?_ | refine againK_keep rfl (by simp only [auQ,auC,auT,BEq.rfl,Nat.reduceLT,Nat.reduceEqDiff,↓reduceIte,fNilCheck,fFieldAddr,fLoad1,q_extract,fExtract,lget]) (by simp only [sames]) ?_ | refine againK_nil ?_)
 try dsimp only
 simp (maxDischargeDepth:=9) only [auD,auC,auT,lget,BEq.rfl,beq_self_eq_true,decide_true,decide_false,reduceCtorEq,Nat.reduceLT,Nat.reduceEqDiff,↓reduceIte]
 try simp only [andThen]
 have l0:=T4.ld0
 obtain ⟨v5,H5,c5,sc5,k5⟩:=print_ok C a1.preads (Nat.le_refl _) (by omega) w1 (by omega)
 have hn5:=k5.nx
 have T5:=T4.keep k5 (by omega)
 obtain ⟨H6,s5,e6,T6,n6⟩:=T5.st (i:=4) (v:=v5) (by omega) sc5
 have n6:H6.nx.toNat = H5.nx.toNat:=by rw [n6]
 have G1'':GraphH N H6 (.ptr gp 0) nn (chAll [] (ps.map addT)):=by rw [e6]; exact (G1''.keep k5 (Nat.le_refl _)).upd T5
 have G3':GraphH N H6 (.ptr hp 0) nn (chAll (chAll [] (ps.map addT)) ts):=by rw [e6]; exact (G3'.keep k5 (Nat.le_refl _)).upd T5
 have a2:GN 3 M2 H6 v2 ts.length (tripVals ts):=by rw [e6]; exact (a2.keep k5 (Nat.le_refl _)).upd T5.1
 have x6:∀ p,p.toNat < H.nx.toNat→p ≠ pt→PT.get p H6.t = PT.get p H.t:=fun p hp hne=>by rw [e6,get_upd_other (fun e=>hne e.symm),k5.get p (by omega),x4 p hp hne]
 have T6:Town H6 pt nn [.ptr gp 0,.ptr hp 0,vc,v2,v5,.snil]:=T6
 refine W.seq (W.region ?_)
 simp (maxDischargeDepth:=9) only [auW,auC,auT,lget,BEq.rfl,beq_self_eq_true,decide_true,decide_false,reduceCtorEq,Nat.reduceLT,Nat.reduceEqDiff,↓reduceIte,g5r27,h10,h11,l0]
 refine wo_callE (c5) (by simp only [auT,Nat.reduceLT,Nat.reduceEqDiff,↓reduceIte,h11]) ?_
 simp (maxDischargeDepth:=9) only [auW,auC,auT,lget,BEq.rfl,beq_self_eq_true,decide_true,decide_false,reduceCtorEq,Nat.reduceLT,Nat.reduceEqDiff,↓reduceIte,h10]
 refine wo_store (b:=pt) (o:=0 + 5) (vs:=[v5]) (by simp only [auT,Nat.reduceLT,Nat.reduceEqDiff,↓reduceIte]) (by simp only [auT,Nat.reduceLT,Nat.reduceEqDiff,↓reduceIte]; exact vcells_scal sc5) rfl s5 ?_
 simp (maxDischargeDepth:=9) only [auW,auC,auT,lget,BEq.rfl,beq_self_eq_true,decide_true,decide_false,reduceCtorEq,Nat.reduceLT,Nat.reduceEqDiff,↓reduceIte]
 try simp only [andThen]
 have m4:hload H6 pt (0 + 4) = some v2:=T6.ld (i:=3) rfl
 obtain ⟨v6,H7,c7,sc7,k7⟩:=printc_ok C a2.treads (Nat.le_refl _) (show nn≤100 by omega) w2 (by omega)
 have hn7:=k7.nx
 have T7:=T6.keep k7 (by omega)
 obtain ⟨H8,s7,e8,T8,n8⟩:=T7.st (i:=5) (v:=v6) (by omega) sc7
 have n8:H8.nx.toNat = H7.nx.toNat:=by rw [n8]
 have G1'':GraphH N H8 (.ptr gp 0) nn (chAll [] (ps.map addT)):=by rw [e8]; exact (G1''.keep k7 (Nat.le_refl _)).upd T7
 have G3':GraphH N H8 (.ptr hp 0) nn (chAll (chAll [] (ps.map addT)) ts):=by rw [e8]; exact (G3'.keep k7 (Nat.le_refl _)).upd T7
 have a2:GN 3 M2 H8 v2 ts.length (tripVals ts):=by rw [e8]; exact (a2.keep k7 (Nat.le_refl _)).upd T7.1
 have x8:∀ p,p.toNat < H.nx.toNat→p ≠ pt→PT.get p H8.t = PT.get p H.t:=fun p hp hne=>by rw [e8,get_upd_other (fun e=>hne e.symm),k7.get p (by omega),x6 p hp hne]
 have T8:Town H8 pt nn [.ptr gp 0,.ptr hp 0,vc,v2,v5,v6]:=T8
 refine W.seq (W.region ?_)
 simp (maxDischargeDepth:=9) only [auW,auC,auT,lget,BEq.rfl,beq_self_eq_true,decide_true,decide_false,reduceCtorEq,Nat.reduceLT,Nat.reduceEqDiff,↓reduceIte,g5r28,h10,m4]
 refine wo_callE (c7) (by simp only [auT,Nat.reduceLT,Nat.reduceEqDiff,↓reduceIte]) ?_
 simp (maxDischargeDepth:=9) only [auW,auC,auT,lget,BEq.rfl,beq_self_eq_true,decide_true,decide_false,reduceCtorEq,Nat.reduceLT,Nat.reduceEqDiff,↓reduceIte,h10]
 refine wo_store (b:=pt) (o:=0 + 6) (vs:=[v6]) (by simp only [auT,Nat.reduceLT,Nat.reduceEqDiff,↓reduceIte]) (by simp only [auT,Nat.reduceLT,Nat.reduceEqDiff,↓reduceIte]; exact vcells_scal sc7) rfl s7 ?_
 simp (maxDischargeDepth:=9) only [auW,auC,auT,lget,BEq.rfl,beq_self_eq_true,decide_true,decide_false,reduceCtorEq,Nat.reduceLT,Nat.reduceEqDiff,↓reduceIte]
 try simp only [andThen]
 have m2:hload H8 pt (0 + 2) = some (.ptr hp 0):=T8.ld (i:=1) rfl
 have cn:=num_ok C (H:=H8) 0
 have cn':CallS E 14 [.int .i64 (.ofNat 0)] H8 (.int .i64 (.ofNat 0)) H8:=cn
 refine W.seq (W.region ?_)
 simp (maxDischargeDepth:=9) only [auW,auC,auT,lget,BEq.rfl,beq_self_eq_true,decide_true,decide_false,reduceCtorEq,Nat.reduceLT,Nat.reduceEqDiff,↓reduceIte,g5r29,h10,m2,eq_ptr_no,fEq]
 refine wo_callE (cn') (by simp only [auT,Nat.reduceLT,Nat.reduceEqDiff,↓reduceIte]; try rfl) ?_
 simp (maxDischargeDepth:=9) only [auW,auC,auT,lget,BEq.rfl,beq_self_eq_true,decide_true,decide_false,reduceCtorEq,Nat.reduceLT,Nat.reduceEqDiff,↓reduceIte]
 refine wo_callE (cn') (by simp only [auT,Nat.reduceLT,Nat.reduceEqDiff,↓reduceIte]; try rfl) ?_
 simp (maxDischargeDepth:=9) only [auW,auC,auT,lget,BEq.rfl,beq_self_eq_true,decide_true,decide_false,reduceCtorEq,Nat.reduceLT,Nat.reduceEqDiff,↓reduceIte,badd00]
 refine wo_callE (cn') (by simp only [auT,Nat.reduceLT,Nat.reduceEqDiff,↓reduceIte]; try rfl) ?_
 simp (maxDischargeDepth:=9) only [auW,auC,auT,lget,BEq.rfl,beq_self_eq_true,decide_true,decide_false,reduceCtorEq,Nat.reduceLT,Nat.reduceEqDiff,↓reduceIte,badd00]
 refine wo_callE (cn') (by simp only [auT,Nat.reduceLT,Nat.reduceEqDiff,↓reduceIte]; try rfl) ?_
 simp (maxDischargeDepth:=9) only [auW,auC,auT,lget,BEq.rfl,beq_self_eq_true,decide_true,decide_false,reduceCtorEq,Nat.reduceLT,Nat.reduceEqDiff,↓reduceIte,badd00,h10,fEq]
 try simp only [andThen]
 exact W.ret ⟨rfl,rfl,by simp only [tget_puts,Nat.reduceLT,Nat.reduceEqDiff,↓reduceIte],by simp only [tget_puts,Nat.reduceLT,Nat.reduceEqDiff,↓reduceIte],.ptr gp 0,.ptr hp 0,v5,v6,T8,G1'',G3',a2.treads,by omega,x8⟩
theorem GN.frame {k N:Nat} {H H':AHeap} {v:AVal} {n:Nat} {cs:List AVal} (h:GN k N H v n cs) (hf:∀ p:Pos,p.toNat < H.nx.toNat→N≤p.toNat→PT.get p H'.t = PT.get p H.t) (hn:H.nx.toNat≤H'.nx.toNat) :GN k N H' v n cs:=by
 obtain ⟨h0,h | ⟨b,e,h1,h2,h3⟩⟩:=h
 ·exact ⟨h0,.inl h⟩
 ·exact ⟨h0,.inr ⟨b,e,by rw [hf b h3 h2]; exact h1,h2,by omega⟩⟩
theorem append_cut {H:AHeap} (n:Nat) :∃ v' H',appendA (H.new (.cells [.int .i64 (.ofNat n)] false false)).2 1 8 .snil (.sl H.nx 0 1 1 0) = some (v',H')∧isScal v' = true∧Keep H.nx.toNat H H':=by
 have k1:Keep H.nx.toNat H (H.new (.cells [.int .i64 (.ofNat n)] false false)).2:=keep_new
 have hs:srcCells (H.new (.cells [.int .i64 (.ofNat n)] false false)).2 1 (.sl H.nx 0 1 1 0) = some (1,[.int .i64 (.ofNat n)]):=by
  unfold srcCells
  have:hloadN (H.new (.cells [.int .i64 (.ofNat n)] false false)).2 H.nx 0 (Nat.mul 1 1) = some [.int .i64 (.ofNat n)]:=by
   unfold hloadN
   rw [get_new]
   rfl
  simp only [this]
 have hn:=k1.nx
 generalize (H.new (.cells [.int .i64 (.ofNat n)] false false)).2 = H1 at k1 hs hn ⊢
 obtain ⟨v',H',e1,e2,e3⟩:=append_gn (k:=1) (by':=8) (N:=H1.nx.toNat) (by omega) (GN.nil (H:=H1)) (Nat.le_refl _) hs rfl rfl (by omega)
 exact ⟨v',H',e1,e2.scal,k1.trans ((GN.keepFr (GN.nil (k:=1) (N:=H1.nx.toNat) (H:=H1)) (Nat.le_refl _) e3).mono hn)⟩
theorem found_ok (C:CodeOkC E) (G:GrC E) {K:Nat} {H:AHeap} {n:Int} {xp xl:AVal} {pl:List Prr} {tl:List Trp} (hp:PReads K H xp pl) (hl:TReads K H xl tl) (hK:K≤H.nx.toNat) :
  ∃ w H',CallS E 5 [.int .i64 n,xp,xl,.snil] H w H'∧∃ (pt:Pos) (nn:Nat) (g h vc vl v5 v6:AVal) (ps:List Prr) (ts:List Trp),w = .tup [.ptr pt 0,.bool true]∧nn < 80∧H.nx.toNat≤pt.toNat∧Town H' pt nn [g,h,vc,vl,v5,v6]∧GraphH H.nx.toNat H' g nn (chAll [] (ps.map addT))∧GraphH H.nx.toNat H' h nn (chAll (chAll [] (ps.map addT)) ts)∧TReads H'.nx.toNat H' vl ts∧(∀ t ∈ ps.map addT,Within nn t)∧(∀ t ∈ ts,Within nn t)∧ps.length≤2000∧ts.length≤300∧Keep H.nx.toNat H H':=by
 refine CallS.by (R:=fun w H'=>∃ (pt:Pos) (nn:Nat) (g h vc vl v5 v6:AVal) (ps:List Prr) (ts:List Trp),w = .tup [.ptr pt 0,.bool true]∧nn < 80∧H.nx.toNat≤pt.toNat∧Town H' pt nn [g,h,vc,vl,v5,v6]∧GraphH H.nx.toNat H' g nn (chAll [] (ps.map addT))∧GraphH H.nx.toNat H' h nn (chAll (chAll [] (ps.map addT)) ts)∧TReads H'.nx.toNat H' vl ts∧(∀ t ∈ ps.map addT,Within nn t)∧(∀ t ∈ ts,Within nn t)∧ps.length≤2000∧ts.length≤300∧Keep H.nx.toNat H H') (t0:=tput (tput (tput (tput .l (some (Pos.ofNat 0)) (.int .i64 n)) (some (Pos.ofNat 1)) xp) (some (Pos.ofNat 2)) xl) (some (Pos.ofNat 3)) .snil) (C.s _ rfl) rfl C.f5 rfl ?_
 refine W.seq (W.region ?_)
 simp (maxDischargeDepth:=9) only [auW,auC,auT,lget,BEq.rfl,beq_self_eq_true,decide_true,decide_false,reduceCtorEq,Nat.reduceLT,Nat.reduceEqDiff,↓reduceIte,g5r0]
 try simp only [andThen]
 obtain ⟨nn,hnn,cn⟩:=in_ok C (H:=H) n (show 0 < 80 by omega) (by omega)
 refine W.seq (W.region ?_)
 simp (maxDischargeDepth:=9) only [auW,auC,auT,lget,BEq.rfl,beq_self_eq_true,decide_true,decide_false,reduceCtorEq,Nat.reduceLT,Nat.reduceEqDiff,↓reduceIte,g5r1]
 refine wo_callE (cn) (by simp only [auT,Nat.reduceLT,Nat.reduceEqDiff,↓reduceIte]) ?_
 refine wo_buildE (vs:=[.int .i64 (.ofNat nn),.pnil,.pnil,.snil,.snil,.snil,.snil]) (by simp [fillA,AOpnd.ev,tget_puts,vcellsO,lput,lover]) ?_
 refine wo_box (vs:=[.int .i64 (.ofNat nn),.pnil,.pnil,.snil,.snil,.snil,.snil]) (by simp only [auT,Nat.reduceLT,Nat.reduceEqDiff,↓reduceIte]; rfl) ?_
 simp (maxDischargeDepth:=9) only [auW,auC,auT,lget,BEq.rfl,beq_self_eq_true,decide_true,decide_false,reduceCtorEq,Nat.reduceLT,Nat.reduceEqDiff,↓reduceIte]
 try simp only [andThen]
 have k1:Keep H.nx.toNat H (H.new (.cells [.int .i64 (.ofNat nn),.pnil,.pnil,.snil,.snil,.snil,.snil] false false)).2:=keep_new
 have n1:(H.new (.cells [.int .i64 (.ofNat nn),.pnil,.pnil,.snil,.snil,.snil,.snil] false false)).2.nx.toNat = H.nx.toNat + 1:=nx_new
 have T1:Town (H.new (.cells [.int .i64 (.ofNat nn),.pnil,.pnil,.snil,.snil,.snil,.snil] false false)).2 H.nx nn [.pnil,.pnil,.snil,.snil,.snil,.snil]:=⟨get_new,rfl,by omega⟩
 generalize (H.new (.cells [.int .i64 (.ofNat nn),.pnil,.pnil,.snil,.snil,.snil,.snil] false false)).2 = H1 at k1 n1 T1 ⊢
 generalize hpt:H.nx = pt at k1 n1 T1 ⊢
 have hptn:H.nx.toNat = pt.toNat:=by rw [hpt]
 refine W.seq (W.region ?_)
 simp (maxDischargeDepth:=9) only [auW,auC,auT,lget,BEq.rfl,beq_self_eq_true,decide_true,decide_false,reduceCtorEq,Nat.reduceLT,Nat.reduceEqDiff,↓reduceIte,g5r2]
 try simp only [andThen]
 refine W.seq (W.seq (W.region ?_))
 simp (maxDischargeDepth:=9) only [auW,auC,auT,lget,BEq.rfl,beq_self_eq_true,decide_true,decide_false,reduceCtorEq,Nat.reduceLT,Nat.reduceEqDiff,↓reduceIte,g5r3]
 try simp only [andThen]
 have hp1:=hp.keep k1 (by omega)
 refine W.block (W.mono (fl1 C hp1 (by omega) T1 hnn (t0:=_) 2000 _ _ ⟨0,.snil,[],by omega,?_,?_,?_,?_,GN.nil,rfl,(fun _ h=>by cases h),Keep.refl _ _,Pres.refl _ _⟩) ?_)
 ·simp only [tget_puts,Nat.reduceLT,Nat.reduceEqDiff,↓reduceIte]
 ·simp only [tget_puts,Nat.reduceLT,Nat.reduceEqDiff,↓reduceIte]
 ·simp only [tget_puts,Nat.reduceLT,Nat.reduceEqDiff,↓reduceIte]
 ·simp only [tget_puts,Nat.reduceLT,Nat.reduceEqDiff,↓reduceIte]
 rintro e ⟨t',ds⟩ H2 ⟨rfl,hd,v1,ps,q10,q11,g1,hps,w1,k2,p2⟩
 have hd:ds = []:=hd
 subst hd
 have q10:tget t' (Pos.ofNat 10) = .ptr pt 0:=q10
 have q11:tget t' (Pos.ofNat 11) = v1:=q11
 have q2:tget t' (Pos.ofNat 2) = xl:=by rw [p2 2 (by simp)]; simp only [tget_puts,Nat.reduceLT,Nat.reduceEqDiff,↓reduceIte]
 have q3:tget t' (Pos.ofNat 3) = .snil:=by rw [p2 3 (by simp)]; simp only [tget_puts,Nat.reduceLT,Nat.reduceEqDiff,↓reduceIte]
 clear p2
 have n2:=k2.nx
 simp only [andThen,inBlock,beq_t]
 refine W.seq (W.seq (W.region ?_))
 simp (maxDischargeDepth:=9) only [auW,auC,auT,lget,BEq.rfl,beq_self_eq_true,decide_true,decide_false,reduceCtorEq,Nat.reduceLT,Nat.reduceEqDiff,↓reduceIte,g5r8]
 try simp only [andThen]
 have hl2:TReads K H2 xl tl:=(hl.keep k1 (by omega)).keep k2 (by omega)
 have T2:Town H2 pt nn [.pnil,.pnil,.snil,.snil,.snil,.snil]:=T1.keep k2 (by omega)
 have T2':Town H2 pt nn ([.pnil,.pnil,.snil,.snil,.snil,.snil].set 3 .snil):=T2
 refine W.block (W.mono (fl2 C hl2 (by omega) T2 hnn (t0:=_) 300 _ _ ⟨0,.snil,[],by omega,?_,?_,?_,T2',GN.nil,rfl,(fun _ h=>by cases h),Nat.le_refl _,(fun _ _ _=>rfl),Pres.refl _ _⟩) ?_)
 ·simp only [tget_puts,Nat.reduceLT,Nat.reduceEqDiff,↓reduceIte,q2]
 ·simp only [tget_puts,Nat.reduceLT,Nat.reduceEqDiff,↓reduceIte,q10]
 ·simp only [tget_puts,Nat.reduceLT,Nat.reduceEqDiff,↓reduceIte]
 rintro e ⟨t3,ds⟩ H3 ⟨rfl,hd,v2,ts,r10,T3,g2,hts,w2,n3,k3,p3⟩
 have hd:ds = []:=hd
 subst hd
 have r10:tget t3 (Pos.ofNat 10) = .ptr pt 0:=r10
 have r11:tget t3 (Pos.ofNat 11) = v1:=by rw [p3 11 (by simp)]; simp only [tget_puts,Nat.reduceLT,Nat.reduceEqDiff,↓reduceIte,q11]
 have r3:tget t3 (Pos.ofNat 3) = .snil:=by rw [p3 3 (by simp)]; simp only [tget_puts,Nat.reduceLT,Nat.reduceEqDiff,↓reduceIte,q3]
 clear p3
 have g1:GN 2 H1.nx.toNat H3 v1 ps.length (pairVals ps):=g1.frame (fun p e1 e2=>k3 p e1 (fun e=>by rw [e] at e2; omega)) n3
 have T3:Town H3 pt nn [.pnil,.pnil,.snil,v2,.snil,.snil]:=T3
 have K3:Keep H.nx.toNat H H3:=⟨by omega,fun p hp=>by rw [k3 p (by omega) (fun e=>by rw [e] at hp; omega),k2.get p (by omega),k1.get p (by omega)]⟩
 simp only [andThen,inBlock,beq_t]
 refine W.seq (W.region ?_)
 simp (maxDischargeDepth:=9) only [auW,auC,auT,lget,BEq.rfl,beq_self_eq_true,decide_true,decide_false,reduceCtorEq,Nat.reduceLT,Nat.reduceEqDiff,↓reduceIte,g5r13]
 try simp only [andThen]
 refine W.seq (W.seq (W.region ?_))
 simp (maxDischargeDepth:=9) only [auW,auC,auT,lget,BEq.rfl,beq_self_eq_true,decide_true,decide_false,reduceCtorEq,Nat.reduceLT,Nat.reduceEqDiff,↓reduceIte,g5r14]
 try simp only [andThen]
 have rest:∀ (t:PT AVal) (H4:AHeap) (vc:AVal),tget t (Pos.ofNat 10) = .ptr pt 0→tget t (Pos.ofNat 11) = v1→Town H4 pt nn [.pnil,.pnil,vc,v2,.snil,.snil]→GN 2 H1.nx.toNat H4 v1 ps.length (pairVals ps)→GN 3 H2.nx.toNat H4 v2 ts.length (tripVals ts)→Keep H.nx.toNat H H4 →
   W E g5rest none ⟨t,[]⟩ H4 (fun e a' H'=>e = .ret∧a'.ds = []∧tget a'.t (Pos.ofNat 8) = .ptr pt 0∧tget a'.t (Pos.ofNat 9) = .bool true∧∃ (nn:Nat) (g h vc vl v5 v6:AVal) (ps:List Prr) (ts:List Trp),AVal.tup [.ptr pt 0,.bool true] = .tup [.ptr pt 0,.bool true]∧nn < 80∧H.nx.toNat≤pt.toNat∧Town H' pt nn [g,h,vc,vl,v5,v6]∧GraphH H.nx.toNat H' g nn (chAll [] (ps.map addT))∧GraphH H.nx.toNat H' h nn (chAll (chAll [] (ps.map addT)) ts)∧TReads H'.nx.toNat H' vl ts∧(∀ t ∈ ps.map addT,Within nn t)∧(∀ t ∈ ts,Within nn t)∧ps.length≤2000∧ts.length≤300∧Keep H.nx.toNat H H'):=by
  intro t H4 vc e10 e11 T4 a1 a2 K4
  have n4:=K4.nx
  refine W.mono (found_rest C G T4 hnn a1 a2 w1 w2 hps hts n4 e10 e11) ?_
  rintro e ⟨t5,ds⟩ H5 ⟨rfl,hd,z8,z9,g,h,v5,v6,T5,G5,G6,tr,n5,x5⟩
  have z8:tget t5 (Pos.ofNat 8) = .ptr pt 0:=z8
  have z9:tget t5 (Pos.ofNat 9) = .bool true:=z9
  refine ⟨rfl,hd,z8,z9,nn,g,h,vc,v2,v5,v6,ps,ts,rfl,hnn,by omega,T5,G5,G6,tr,w1,w2,hps,hts,K4.trans ⟨n5,fun p hp=>x5 p (by omega) (fun e=>by rw [e] at hp; omega)⟩⟩
 have hls:fLen H3 1 .snil = some (.int .i64 (.ofNat 0)):=rfl
 refine W.block (W.loop_inv (Inv:=fun q t' H'=>H' = H3∧tget t' (Pos.ofNat 3) = .snil∧tget t' (Pos.ofNat 10) = .ptr pt 0∧tget t' (Pos.ofNat 11) = v1∧tget t' (Pos.ofNat 14) = .int .i64 (.ofNat 0)∧tget t' (Pos.ofNat 15) = .int .i64 (.ofNat 0)) ?_ 0 _ _ ⟨rfl,?_,?_,?_,?_,?_⟩)
 rotate_left
 ·simp only [tget_puts,Nat.reduceLT,Nat.reduceEqDiff,↓reduceIte,r3]
 ·simp only [tget_puts,Nat.reduceLT,Nat.reduceEqDiff,↓reduceIte,r10]
 ·simp only [tget_puts,Nat.reduceLT,Nat.reduceEqDiff,↓reduceIte,r11]
 ·simp only [tget_puts,Nat.reduceLT,Nat.reduceEqDiff,↓reduceIte]
 ·simp only [tget_puts,Nat.reduceLT,Nat.reduceEqDiff,↓reduceIte]
 clear r10 r11 r3
 rintro q t H4 ⟨rfl,r3,r10,r11,r14,r15⟩
 refine W.seq (W.seq (W.region ?_))
 simp (maxDischargeDepth:=9) only [auW,auC,auT,lget,BEq.rfl,beq_self_eq_true,decide_true,decide_false,reduceCtorEq,Nat.reduceLT,Nat.reduceEqDiff,↓reduceIte,g5r15,r3,r10,r14,r15,hls,show ¬ (0 < 0) by omega]
 try simp only [andThen]
 refine W.cond_false (by simp [AOpnd.ev,tget_puts]) (W.exit ?_)
 simp only [andThen,inBlock,beq_t]
 have l0:=T3.ld0
 refine W.seq (W.seq (W.region ?_))
 simp (maxDischargeDepth:=9) only [auW,auC,auT,lget,BEq.rfl,beq_self_eq_true,decide_true,decide_false,reduceCtorEq,Nat.reduceLT,Nat.reduceEqDiff,↓reduceIte,g5r20,r10,r14,l0]
 try simp only [andThen]
 refine W.cond_if (p:=0 < nn) (by simp [AOpnd.ev,tget_puts]) (fun hlt=>?_) (fun hge=>W.skip ?_)
 ·obtain ⟨vc,H5,c5,sc5,k5⟩:=append_cut (H:=H4) nn
  have n5:=k5.nx
  have T5:=T3.keep k5 T3.2.2
  obtain ⟨H6,s6,e6,T6,n6⟩:=T5.st (i:=2) (v:=vc) (by omega) sc5
  have n6:H6.nx.toNat = H5.nx.toNat:=by rw [n6]
  have T6:Town H6 pt nn [.pnil,.pnil,vc,v2,.snil,.snil]:=T6
  have hsc:vcellsO vc = some [vc]:=vcells_scal sc5
  have m3:hload H4 pt (0 + 3) = some .snil:=T3.ld (i:=2) rfl
  refine W.draw ?_
  simp (maxDischargeDepth:=9) only [auD,auC,auT,lget,BEq.rfl,beq_self_eq_true,decide_true,decide_false,reduceCtorEq,Nat.reduceLT,Nat.reduceEqDiff,↓reduceIte,g5d21,r10,l0,m3]
  refine wd_buildSliceE (vs:=[.int .i64 (.ofNat nn)]) (by simp [fillA,AOpnd.ev,tget_puts,vcellsO,lput,lover]) ?_
  refine wd_appendK c5 (by simp only [auT,Nat.reduceLT,Nat.reduceEqDiff,↓reduceIte]) (by simp only [auT,Nat.reduceLT,Nat.reduceEqDiff,↓reduceIte]) ?_
  repeat (first | refine againK_skip rfl ?_ | refine againK_keep rfl (by simp only [auQ,auC,auT,BEq.rfl,Nat.reduceLT,Nat.reduceEqDiff,↓reduceIte,fNilCheck,fFieldAddr,fLoad1,q_extract,fExtract,lget,r10]) (by simp only [sames]) ?_ | refine againK_nil ?_)
  try dsimp only
  simp (maxDischargeDepth:=9) only [auD,auC,auT,lget,BEq.rfl,beq_self_eq_true,decide_true,decide_false,reduceCtorEq,Nat.reduceLT,Nat.reduceEqDiff,↓reduceIte]
  refine wd_storeK (b:=pt) (o:=0 + 3) (vs:=[vc]) (by simp only [auT,Nat.reduceLT,Nat.reduceEqDiff,↓reduceIte]) (by simp only [auT,Nat.reduceLT,Nat.reduceEqDiff,↓reduceIte]; exact hsc) rfl s6 ?_
  repeat (first | refine againK_skip rfl ?_ | refine againK_keep rfl (by simp only [auQ,auC,auT,BEq.rfl,Nat.reduceLT,Nat.reduceEqDiff,↓reduceIte,fNilCheck,fFieldAddr,fLoad1,q_extract,fExtract,lget,r10]) (by simp only [sames]) ?_ | refine againK_nil ?_)
  try dsimp only
  simp (maxDischargeDepth:=9) only [auD,auC,auT,lget,BEq.rfl,beq_self_eq_true,decide_true,decide_false,reduceCtorEq,Nat.reduceLT,Nat.reduceEqDiff,↓reduceIte]
  try simp only [andThen]
  refine W.mono (rest _ _ vc ?_ ?_ T6 ?_ ?_ ?_) ?_
  ·simp only [tget_puts,Nat.reduceLT,Nat.reduceEqDiff,↓reduceIte,r10]
  ·simp only [tget_puts,Nat.reduceLT,Nat.reduceEqDiff,↓reduceIte,r11]
  ·rw [e6]; exact (g1.keep k5 (Nat.le_refl _)).upd T5.1
  ·rw [e6]; exact (g2.keep k5 (Nat.le_refl _)).upd T5.1
  ·refine K3.trans ⟨by omega,fun p hp=>?_⟩
   rw [e6,get_upd_other (fun e=>by rw [← e] at hp; omega),k5.get p (by omega)]
  rintro e ⟨t5,ds⟩ H5 ⟨rfl,hd,z8,z9,z⟩
  have z8:tget t5 (Pos.ofNat 8) = .ptr pt 0:=z8
  have z9:tget t5 (Pos.ofNat 9) = .bool true:=z9
  exact ⟨.inr rfl,hd,.tup [.ptr pt 0,.bool true],by simp only [resultA,g5,z8,z9],pt,by rw [hpt] at z; exact z⟩
 ·try simp only [andThen]
  refine W.mono (rest _ _ .snil ?_ ?_ T3 g1 g2 K3) ?_
  ·simp only [tget_puts,Nat.reduceLT,Nat.reduceEqDiff,↓reduceIte,r10]
  ·simp only [tget_puts,Nat.reduceLT,Nat.reduceEqDiff,↓reduceIte,r11]
  rintro e ⟨t5,ds⟩ H5 ⟨rfl,hd,z8,z9,z⟩
  have z8:tget t5 (Pos.ofNat 8) = .ptr pt 0:=z8
  have z9:tget t5 (Pos.ofNat 9) = .bool true:=z9
  exact ⟨.inr rfl,hd,.tup [.ptr pt 0,.bool true],by simp only [resultA,g5,z8,z9],pt,by rw [hpt] at z; exact z⟩
end
end Go.Am
end

section
namespace Go.Am
open Go Go.RowKit
theorem b_geqI (a b:Int) :binOpA .geq (.int .i64 a) (.int .i64 b) = some (.bool (decide (b≤a))):=by
 show some (AVal.bool (!(ltI a b))) = _
 rw [ltI_eq]
 by_cases h:b≤a <;> simp [h]
 omega
theorem b_gtrI (a b:Int) :binOpA .gtr (.int .i64 a) (.int .i64 b) = some (.bool (decide (b < a))):=by
 show some (AVal.bool (ltI b a)) = _
 rw [ltI_eq]
theorem wantUD (c:Bool) :wantV AVal.undef c = some false:=rfl
theorem rise_loop {E:Env} {K:Nat} {H0:AHeap} {x:AVal} {m:List Trp} (hx:TReads K H0 x m) (hlt:∀ t ∈ m,t.1 < t.2.1) (hr:m.Pairwise (fun a b=>LtK (keyT a) (keyT b))) (hl:m.length≤1000000) {t0:PT AVal} {ro:Option Pos} :
  ∀ (q:Nat) (t:PT AVal) (H:AHeap),(∃ i,i + q = m.length∧tget t (Pos.ofNat 14) = x∧tget t (Pos.ofNat 16) = .int .i64 (.ofNat i)∧H = H0∧Pres [0,1,2,3,4,11,12,13,14,15] t0 t) →
  W E (.loop g3l12) ro ⟨t,[]⟩ H (fun e a' H'=>e = .exit 0∧a'.ds = []∧H' = H0∧Pres [0,1,2,3,4,11,12,13,14,15] t0 a'.t):=by
 refine W.loop_inv (Q:=fun e a' H'=>e = .exit 0∧a'.ds = []∧H' = H0∧Pres [0,1,2,3,4,11,12,13,14,15] t0 a'.t) _ ?_
 rintro q t H ⟨i,hi,h14,h16,rfl,hp⟩
 have hxl:=hx.fLen
 refine W.seq (W.seq (W.region ?_))
 simp (maxDischargeDepth:=9) only [auW,auC,auT,lget,BEq.rfl,beq_self_eq_true,decide_true,decide_false,reduceCtorEq,Nat.reduceLT,Nat.reduceEqDiff,↓reduceIte,g3r8,h14,h16,hxl]
 simp only [andThen]
 refine W.cond_if (p:=i < m.length) (by simp [AOpnd.ev,tget_puts]) (fun hlt2=>W.skip ?_) (fun hge=>W.exit ⟨by trivial,by trivial,by trivial,?_⟩)
 rotate_left
 ·try dsimp only
  repeat (first | refine Pres.put ?_ (by decide) (by decide) | exact hp)
 simp only [andThen]
 have hnext:∀ t':PT AVal,tget t' (Pos.ofNat 14) = x→tget t' (Pos.ofNat 16) = .int .i64 (.ofNat i)→Pres [0,1,2,3,4,11,12,13,14,15] t0 t'→W E (.region g3r11) ro ⟨t',[]⟩ H (loopPost [] (fun q t H'=>∃ i,i + q = m.length∧tget t (Pos.ofNat 14) = x∧tget t (Pos.ofNat 16) = .int .i64 (.ofNat i)∧H' = H∧Pres [0,1,2,3,4,11,12,13,14,15] t0 t) (fun e a' H'=>e = .exit 0∧a'.ds = []∧H' = H∧Pres [0,1,2,3,4,11,12,13,14,15] t0 a'.t) q):=by
  intro t' h14 h16 hp
  refine W.region ?_
  simp (maxDischargeDepth:=9) only [auW,auC,auT,lget,BEq.rfl,beq_self_eq_true,decide_true,decide_false,reduceCtorEq,Nat.reduceLT,Nat.reduceEqDiff,↓reduceIte,g3r11,h16,b_add (show i + 1≤9223372036854775807 by omega)]
  refine ⟨by trivial,q - 1,by omega,i + 1,by omega,?_,?_,rfl,?_⟩
  ·simp only [tget_puts,Nat.reduceLT,Nat.reduceEqDiff,↓reduceIte,h14]
  ·simp only [tget_puts,Nat.reduceLT,Nat.reduceEqDiff,↓reduceIte]
  ·try dsimp only
   repeat (first | refine Pres.put ?_ (by decide) (by decide) | exact hp)
 obtain ⟨b,o,e1,e2,hbN⟩:=hx.fIdx hlt2
 obtain ⟨m0,m1,m2⟩:=cell_at e2
 have hcc:¬ m[i].2.1≤m[i].1:=by have:=hlt m[i] (List.getElem_mem hlt2); omega
 refine W.seq (W.block (W.seq (W.draw ?_)))
 by_cases h0:0 < i
 rotate_left
 ·simp (maxDischargeDepth:=9) only [auD,auC,auT,lget,BEq.rfl,beq_self_eq_true,decide_true,decide_false,reduceCtorEq,Nat.reduceLT,Nat.reduceEqDiff,↓reduceIte,g3d9,h0,h14,h16,e1,m0,m1,b_geqI m[i].1 m[i].2.1,wantUD,hcc]
  try simp only [andThen,inBlock]
  refine W.cond_false (by simp [AOpnd.ev,tget_puts]) (W.skip ?_)
  try simp only [andThen,inBlock]
  exact hnext _ (by simp only [tget_puts,Nat.reduceLT,Nat.reduceEqDiff,↓reduceIte,h14]) (by simp only [tget_puts,Nat.reduceLT,Nat.reduceEqDiff,↓reduceIte,h16]) (by
   try dsimp only
   repeat (first | refine Pres.put ?_ (by decide) (by decide) | exact hp))
 obtain ⟨b',o',e1',e2',hbN'⟩:=hx.fIdx (show i - 1 < m.length by omega)
 obtain ⟨m0',m1',m2'⟩:=cell_at e2'
 have hk:=List.pairwise_iff_getElem.1 hr (i - 1) i (by omega) hlt2 (by omega)
 simp only [LtK,keyT] at hk
 rcases hk with hk | ⟨hk,hk2⟩
 ·have c1:¬ m[i].1 < m[i - 1].1:=by omega
  have c2:¬ m[i - 1].1 = m[i].1:=by omega
  simp (maxDischargeDepth:=9) only [auD,auC,auT,lget,BEq.rfl,beq_self_eq_true,decide_true,decide_false,reduceCtorEq,Nat.reduceLT,Nat.reduceEqDiff,↓reduceIte,g3d9,h0,b_sub (show 1≤i by omega) (show i≤9223372036854775807 by omega),e1',m0',m1',b_gtrI m[i - 1].1 m[i].1,c1,c2,h14,h16,e1,m0,m1,b_geqI m[i].1 m[i].2.1,wantUD,hcc]
  try simp only [andThen,inBlock]
  refine W.cond_false (by simp [AOpnd.ev,tget_puts]) (W.skip ?_)
  try simp only [andThen,inBlock]
  exact hnext _ (by simp only [tget_puts,Nat.reduceLT,Nat.reduceEqDiff,↓reduceIte,h14]) (by simp only [tget_puts,Nat.reduceLT,Nat.reduceEqDiff,↓reduceIte,h16]) (by
   try dsimp only
   repeat (first | refine Pres.put ?_ (by decide) (by decide) | exact hp))
 ·have c1:¬ m[i].1 < m[i - 1].1:=by omega
  have c3:¬ m[i].2.1≤m[i - 1].2.1:=by omega
  simp (maxDischargeDepth:=9) only [auD,auC,auT,lget,BEq.rfl,beq_self_eq_true,decide_true,decide_false,reduceCtorEq,Nat.reduceLT,Nat.reduceEqDiff,↓reduceIte,g3d9,h0,b_sub (show 1≤i by omega) (show i≤9223372036854775807 by omega),e1',m0',m1',b_gtrI m[i - 1].1 m[i].1,b_geqI m[i - 1].2.1 m[i].2.1,c1,show decide (m[i - 1].1 = m[i].1) = true from decide_eq_true hk,c3,h14,h16,e1,m0,m1,b_geqI m[i].1 m[i].2.1,wantUD,hcc]
  try simp only [andThen,inBlock]
  refine W.cond_false (by simp [AOpnd.ev,tget_puts]) (W.skip ?_)
  try simp only [andThen,inBlock]
  exact hnext _ (by simp only [tget_puts,Nat.reduceLT,Nat.reduceEqDiff,↓reduceIte,h14]) (by simp only [tget_puts,Nat.reduceLT,Nat.reduceEqDiff,↓reduceIte,h16]) (by
   try dsimp only
   repeat (first | refine Pres.put ?_ (by decide) (by decide) | exact hp))
end Go.Am
end

section
namespace Go.Am
open Go Go.RowKit
theorem IReads.sm {n:Nat} {H:AHeap} {v:AVal} {l:List AVal} (h:Reads n H v l) :same v v = true:=by
 rcases h with ⟨rfl,_⟩ | ⟨b,o,cap,sz,rfl,_⟩
 ·exact same_snil
 ·exact same_sl _ _ _ _ _
theorem mres_reads {H:AHeap} {b:Pos} {l:List Int} {zs:List AVal} {op ro:Bool} (hb:PT.get b H.t = some (.cells (intVals l ++ zs) op ro)) {K:Nat} (hK:b.toNat < K) :Reads K H (.sl b 0 l.length l.length 0) (intVals l):=by
 refine .inr ⟨b,0,l.length,0,by rw [intVals_length],?_,hK,.inl rfl,by rw [intVals_length]; omega⟩
 rw [hloadN_at hb (by rw [List.length_append,intVals_length]; omega),List.drop_zero]
 simp
section
variable {E:Env}
theorem nbr_loop (C:CodeOkC E) {N K:Nat} {H0:AHeap} {pt:Pos} {nn:Nat} {g h vc vl v5 v6:AVal} {es ts:List Trp} (hT:Town H0 pt nn [g,h,vc,vl,v5,v6]) (hnn:nn < 80) (hg:GraphH N H0 g nn es) (hh:GraphH N H0 h nn (chAll es ts)) (hl:TReads K H0 vl ts) (hK:K≤H0.nx.toNat) (hw:∀ t ∈ ts,Within nn t) (b1:es.length≤100000) (b2:ts.length≤100000) {t0:PT AVal} {ro:Option Pos} :
  ∀ (q:Nat) (t:PT AVal) (H:AHeap),(∃ i,i + q = nn∧tget t (Pos.ofNat 12) = .ptr pt 0∧tget t (Pos.ofNat 21) = .int .i64 (.ofNat i)∧Keep H0.nx.toNat H0 H∧Pres [10,15,17,18,19,20] t0 t) →
  W E (.loop g3l22) ro ⟨t,[]⟩ H (fun e a' H'=>e = .exit 2∧a'.ds = []∧Keep H0.nx.toNat H0 H'∧Pres [10,15,17,18,19,20] t0 a'.t):=by
 have hE:=hg.ok
 obtain ⟨gp,_,_,rfl,_⟩:=hg.fields
 obtain ⟨hp',_,_,rfl,_⟩:=hh.fields
 have hcl:=chAll_length ts es
 refine W.loop_inv (Q:=fun e a' H'=>e = .exit 2∧a'.ds = []∧Keep H0.nx.toNat H0 H'∧Pres [10,15,17,18,19,20] t0 a'.t) _ ?_
 rintro q t H ⟨i,hi,h12,h21,hk,hp⟩
 have hptl:=hT.2.2
 have hnx:=hk.nx
 have T:=hT.keep hk hptl
 have l0:=T.ld0
 have l1:hload H pt (0 + 1) = some (.ptr gp 0):=T.ld (i:=0) rfl
 have l4:hload H pt (0 + 4) = some vl:=T.ld (i:=3) rfl
 have l2:hload H pt (0 + 2) = some (.ptr hp' 0):=T.ld (i:=1) rfl
 refine W.seq (W.seq (W.region ?_))
 simp (maxDischargeDepth:=9) only [auW,auC,auT,lget,BEq.rfl,beq_self_eq_true,decide_true,decide_false,reduceCtorEq,Nat.reduceLT,Nat.reduceEqDiff,↓reduceIte,g3r17,h12,h21,l0]
 simp only [andThen]
 refine W.cond_if (p:=i < nn) (by simp [AOpnd.ev,tget_puts]) (fun hlt=>W.skip ?_) (fun hge=>W.exit ⟨by trivial,by trivial,hk,?_⟩)
 rotate_left
 ·try dsimp only
  repeat (first | refine Pres.put ?_ (by decide) (by decide) | exact hp)
 simp only [andThen]
 obtain ⟨v1,H1,c1,r1,k1⟩:=neigh_ok C (hg.keep hk (Nat.le_refl _)) hlt (by omega)
 have n1:=k1.nx
 have T1:=T.keep k1 (by omega)
 have T1:Town H1 pt nn [.ptr gp 0,.ptr hp' 0,vc,vl,v5,v6]:=T1
 have x1:TReads H1.nx.toNat H1 vl ts:=((hl.keep hk hK).keep k1 (by omega)).mono (by omega)
 have rl1:=rowZ_length es (Int.ofNat i)
 obtain ⟨_,H2,c2,⟨b,zs,rfl,gb,gb0,gb1⟩,k2⟩:=merge_ok C (Int.ofNat i) r1 x1 (by omega) (by omega) (by omega)
 rw [row_merge hE hw] at c2 gb
 have n2:=k2.nx
 have T2:Town H2 pt nn [.ptr gp 0,.ptr hp' 0,vc,vl,v5,v6]:=T1.keep k2 (by omega)
 have hh2:GraphH N H2 (.ptr hp' 0) nn (chAll es ts):=((hh.keep hk (Nat.le_refl _)).keep k1 (Nat.le_refl _)).keep k2 (Nat.le_refl _)
 obtain ⟨v3,H3,c3,r3,k3⟩:=neigh_ok C hh2 hlt (by omega)
 have n3:=k3.nx
 have rl3:=rowZ_length (chAll es ts) (Int.ofNat i)
 have r2:Reads H3.nx.toNat H3 (.sl b 0 (rowZ (chAll es ts) (Int.ofNat i)).length (rowZ (chAll es ts) (Int.ofNat i)).length 0) (intVals (rowZ (chAll es ts) (Int.ofNat i))):=((mres_reads gb gb1).keep k3 (Nat.le_refl _)).mono n3
 have c4:=isame_ok C r2 r3 (by omega)
 have m4:hload H1 pt (0 + 4) = some vl:=T1.ld (i:=3) rfl
 have m2:hload H1 pt (0 + 2) = some (.ptr hp' 0):=T1.ld (i:=1) rfl
 have m2':hload H2 pt (0 + 2) = some (.ptr hp' 0):=T2.ld (i:=1) rfl
 have s1:=IReads.sm r1
 have s4:=hl.sm
 have s3:=IReads.sm r3
 refine W.seq (W.block (W.seq (W.draw ?_)))
 simp (maxDischargeDepth:=9) only [auD,auC,auT,lget,BEq.rfl,beq_self_eq_true,decide_true,decide_false,reduceCtorEq,Nat.reduceLT,Nat.reduceEqDiff,↓reduceIte,g3d18,h12,h21,l1,l2,l4]
 refine wd_callK c1 (by simp only [auT,Nat.reduceLT,Nat.reduceEqDiff,↓reduceIte]) ?_
 repeat (first | refine againK_skip rfl ?_ | refine againK_keep rfl (by simp only [auQ,auC,auT,BEq.rfl,Nat.reduceLT,Nat.reduceEqDiff,↓reduceIte,fNilCheck,fFieldAddr,fLoad1,q_extract,fExtract,lget,h12,h21,m4,m2]) (by simp only [sames,s1,s4,s3]) ?_ | refine againK_nil ?_)
 try dsimp only
 refine wd_callK c2 (by simp only [auT,Nat.reduceLT,Nat.reduceEqDiff,↓reduceIte]) ?_
 repeat (first | refine againK_skip rfl ?_ | refine againK_keep rfl (by simp only [auQ,auC,auT,BEq.rfl,Nat.reduceLT,Nat.reduceEqDiff,↓reduceIte,fNilCheck,fFieldAddr,fLoad1,q_extract,fExtract,lget,h12,h21,m2']) (by simp only [sames,s1,s4,s3]) ?_ | refine againK_nil ?_)
 try dsimp only
 refine wd_callK c3 (by simp only [auT,Nat.reduceLT,Nat.reduceEqDiff,↓reduceIte]) ?_
 repeat (first | refine againK_skip rfl ?_ | refine againK_keep rfl (by simp only [auQ,auC,auT,BEq.rfl,Nat.reduceLT,Nat.reduceEqDiff,↓reduceIte,fNilCheck,fFieldAddr,fLoad1,q_extract,fExtract,lget,h12,h21,m2']) (by simp only [sames,s1,s4,s3]) ?_ | refine againK_nil ?_)
 try dsimp only
 refine wd_callK c4 (by simp only [auT,Nat.reduceLT,Nat.reduceEqDiff,↓reduceIte]) ?_
 repeat (first | refine againK_skip rfl ?_ | refine againK_keep rfl (by simp only [auQ,auC,auT,BEq.rfl,Nat.reduceLT,Nat.reduceEqDiff,↓reduceIte,fNilCheck,fFieldAddr,fLoad1,q_extract,fExtract,lget,h12,h21]) (by simp only [sames,s1,s4,s3]) ?_ | refine againK_nil ?_)
 try dsimp only
 simp (maxDischargeDepth:=9) only [auD,auC,auT,lget,BEq.rfl,beq_self_eq_true,decide_true,decide_false,reduceCtorEq,Nat.reduceLT,Nat.reduceEqDiff,↓reduceIte]
 simp only [andThen,inBlock]
 refine W.seq (W.region ?_)
 simp (maxDischargeDepth:=9) only [auW,auC,auT,lget,BEq.rfl,beq_self_eq_true,decide_true,decide_false,reduceCtorEq,Nat.reduceLT,Nat.reduceEqDiff,↓reduceIte,g3r19]
 simp only [andThen,inBlock]
 refine W.cond_false (by simp [AOpnd.ev,tget_puts]) (W.skip ?_)
 simp only [andThen,inBlock]
 refine W.region ?_
 simp (maxDischargeDepth:=9) only [auW,auC,auT,lget,BEq.rfl,beq_self_eq_true,decide_true,decide_false,reduceCtorEq,Nat.reduceLT,Nat.reduceEqDiff,↓reduceIte,g3r21,h21,b_add (show i + 1≤9223372036854775807 by omega)]
 refine ⟨by trivial,q - 1,by omega,i + 1,by omega,?_,?_,hk.trans (k1.mono hnx |>.trans ((k2.mono (by omega)).trans (k3.mono (by omega)))),?_⟩
 ·simp only [tget_puts,Nat.reduceLT,Nat.reduceEqDiff,↓reduceIte,h12]
 ·simp only [tget_puts,Nat.reduceLT,Nat.reduceEqDiff,↓reduceIte]
 ·try dsimp only
  repeat (first | refine Pres.put ?_ (by decide) (by decide) | exact hp)
end
end Go.Am
end

section
namespace Go.Am
open Go Go.RowKit
abbrev g3rest:ACode:=(.seq (.draw g3d14) (.seq (.region g3r15) (.seq (.seq (.region g3r16) (.block 2 (.loop g3l22))) (.seq (.region g3r23) .ret))))
theorem mergeZ_length (v:Int) (to:List Int) (ms:List Mrk) :(mergeZ v to ms).length≤to.length + ms.length:=by
 have g1:=compactZ_length (sortZ (oldM v ms to ++ newM ms))
 rw [sortZ_length,List.length_append] at g1
 have g2:=oldM_length v ms to
 have g3:=newM_length ms
 show (compactZ (sortZ (oldM v ms to ++ newM ms))).length≤_
 omega
section
variable {E:Env}
theorem last_rest (C:CodeOkC E) (G:GrC E) {N K:Nat} {H:AHeap} {pt:Pos} {nn:Nat} {g h vc vl v5 v6:AVal} {es ts:List Trp} (hT:Town H pt nn [g,h,vc,vl,v5,v6]) (hnn:nn < 80) (hg:GraphH N H g nn es) (hh:GraphH N H h nn (chAll es ts)) (hl:TReads K H vl ts) (hK:K≤H.nx.toNat) (hw:∀ t ∈ ts,Within nn t) (b1:es.length≤2000) (b2:ts.length≤300) {t:PT AVal} (h12:tget t (Pos.ofNat 12) = .ptr pt 0) (h15:tget t (Pos.ofNat 15) = .bool true) (h17:tget t (Pos.ofNat 17) = .bool true) :
  W E g3rest none ⟨t,[]⟩ H (fun e a' H'=>e = .ret∧a'.ds = []∧tget a'.t (Pos.ofNat 10) = .bool true):=by
 have hptl:=hT.2.2
 have hE:=hg.ok
 have hsl:=hl.sm
 obtain ⟨gp,_,_,rfl,_⟩:=hg.fields
 obtain ⟨hp',_,_,rfl,_⟩:=hh.fields
 have hcl:=chAll_length ts es
 have hnl:=netT_len ts
 have hcl2:=chAll_length (netT ts) es
 have m1:hload H pt (0 + 1) = some (.ptr gp 0):=hT.ld (i:=0) rfl
 have m4:hload H pt (0 + 4) = some vl:=hT.ld (i:=3) rfl
 obtain ⟨v1,H1,c1,f1,k1⟩:=net_call C.s7 hl (by omega)
 have n1:=k1.nx
 have T1:Town H1 pt nn [.ptr gp 0,.ptr hp' 0,vc,vl,v5,v6]:=hT.keep k1 hptl
 obtain ⟨v2,H2,c2,G2,k2⟩:=G.ch (hg.keep k1 (Nat.le_refl _)) f1.reads (netT_within hw) (by omega) (by omega) (by omega)
 have n2:=k2.nx
 have T2:Town H2 pt nn [.ptr gp 0,.ptr hp' 0,vc,vl,v5,v6]:=T1.keep k2 (by omega)
 have m1':hload H1 pt (0 + 1) = some (.ptr gp 0):=T1.ld (i:=0) rfl
 refine W.seq (W.draw ?_)
 simp (maxDischargeDepth:=9) only [auD,auC,auT,lget,BEq.rfl,beq_self_eq_true,decide_true,decide_false,reduceCtorEq,Nat.reduceLT,Nat.reduceEqDiff,↓reduceIte,g3d14,h12,m1,m4]
 refine wd_callK c1 (by simp only [auT,Nat.reduceLT,Nat.reduceEqDiff,↓reduceIte]) ?_
 repeat (first | refine againK_skip rfl ?_ | refine againK_keep rfl (by simp only [auQ,auC,auT,BEq.rfl,Nat.reduceLT,Nat.reduceEqDiff,↓reduceIte,fNilCheck,fFieldAddr,fLoad1,q_extract,fExtract,lget,h12,m1']) (by simp only [sames,hsl]) ?_ | refine againK_nil ?_)
 try dsimp only
 refine wd_callK c2 (by simp only [auT,Nat.reduceLT,Nat.reduceEqDiff,↓reduceIte]) ?_
 repeat (first | refine againK_skip rfl ?_ | refine againK_keep rfl (by simp only [auQ,auC,auT,BEq.rfl,Nat.reduceLT,Nat.reduceEqDiff,↓reduceIte,fNilCheck,fFieldAddr,fLoad1,q_extract,fExtract,lget,h12]) (by simp only [sames,hsl]) ?_ | refine againK_nil ?_)
 try dsimp only
 simp (maxDischargeDepth:=9) only [auD,auC,auT,lget,BEq.rfl,beq_self_eq_true,decide_true,decide_false,reduceCtorEq,Nat.reduceLT,Nat.reduceEqDiff,↓reduceIte]
 simp only [andThen]
 have hh2:GraphH N H2 (.ptr hp' 0) nn (chAll es ts):=(hh.keep k1 (Nat.le_refl _)).keep k2 (Nat.le_refl _)
 obtain ⟨H3,c3,k3⟩:=graphs_ok C G2 hh2 (fun u _=>row_net hE hw (Int.ofNat u)) (by omega) (by omega) (by omega)
 have n3:=k3.nx
 have T3:Town H3 pt nn [.ptr gp 0,.ptr hp' 0,vc,vl,v5,v6]:=T2.keep k3 (by omega)
 have m2:hload H2 pt (0 + 2) = some (.ptr hp' 0):=T2.ld (i:=1) rfl
 refine W.seq (W.region ?_)
 simp (maxDischargeDepth:=9) only [auW,auC,auT,lget,BEq.rfl,beq_self_eq_true,decide_true,decide_false,reduceCtorEq,Nat.reduceLT,Nat.reduceEqDiff,↓reduceIte,g3r15,h12,m2]
 refine wo_callE (c3) (by simp only [auT,Nat.reduceLT,Nat.reduceEqDiff,↓reduceIte]) ?_
 simp (maxDischargeDepth:=9) only [auW,auC,auT,lget,BEq.rfl,beq_self_eq_true,decide_true,decide_false,reduceCtorEq,Nat.reduceLT,Nat.reduceEqDiff,↓reduceIte]
 simp only [andThen]
 refine W.seq (W.seq (W.region ?_))
 simp (maxDischargeDepth:=9) only [auW,auC,auT,lget,BEq.rfl,beq_self_eq_true,decide_true,decide_false,reduceCtorEq,Nat.reduceLT,Nat.reduceEqDiff,↓reduceIte,g3r16]
 simp only [andThen]
 have hg3:GraphH N H3 (.ptr gp 0) nn es:=((hg.keep k1 (Nat.le_refl _)).keep k2 (Nat.le_refl _)).keep k3 (Nat.le_refl _)
 have hl3:TReads K H3 vl ts:=((hl.keep k1 hK).keep k2 (by omega)).keep k3 (by omega)
 refine W.block (W.mono (nbr_loop C (t0:=_) T3 hnn hg3 (hh2.keep k3 (Nat.le_refl _)) hl3 (by omega) hw (by omega) (by omega) nn _ _ ⟨0,by omega,?_,?_,Keep.refl _ _,Pres.refl _ _⟩) ?_)
 ·simp only [tget_puts,Nat.reduceLT,Nat.reduceEqDiff,↓reduceIte,h12]
 ·simp only [tget_puts,Nat.reduceLT,Nat.reduceEqDiff,↓reduceIte]
 rintro e ⟨t',ds⟩ H4 ⟨rfl,hd,k4,p4⟩
 have hd:ds = []:=hd
 subst hd
 have q15:tget t' (Pos.ofNat 15) = .bool true:=by rw [p4 15 (by simp)]; simp only [tget_puts,Nat.reduceLT,Nat.reduceEqDiff,↓reduceIte,h15]
 have q17:tget t' (Pos.ofNat 17) = .bool true:=by rw [p4 17 (by simp)]; simp only [tget_puts,Nat.reduceLT,Nat.reduceEqDiff,↓reduceIte,h17]
 have q19:tget t' (Pos.ofNat 19) = .int .i64 0:=by rw [p4 19 (by simp)]; simp only [tget_puts,Nat.reduceLT,Nat.reduceEqDiff,↓reduceIte]
 have q20:tget t' (Pos.ofNat 20) = .bool true:=by rw [p4 20 (by simp)]; simp only [tget_puts,Nat.reduceLT,Nat.reduceEqDiff,↓reduceIte]
 simp only [andThen,inBlock,beq_t]
 have cn:=num_ok C (H:=H4) 0
 have z0:binOpA .eql (.int .i64 0) (.int .i64 (.ofNat 0)) = some (.bool true):=rfl
 refine W.seq (W.region ?_)
 simp (maxDischargeDepth:=9) only [auW,auC,auT,lget,BEq.rfl,beq_self_eq_true,decide_true,decide_false,reduceCtorEq,Nat.reduceLT,Nat.reduceEqDiff,↓reduceIte,g3r23,q15,q17,q19]
 refine wo_callE (cn) (by simp only [auT,Nat.reduceLT,Nat.reduceEqDiff,↓reduceIte]; try rfl) ?_
 simp (maxDischargeDepth:=9) only [auW,auC,auT,lget,BEq.rfl,beq_self_eq_true,decide_true,decide_false,reduceCtorEq,Nat.reduceLT,Nat.reduceEqDiff,↓reduceIte,q20,z0]
 simp only [andThen]
 exact W.ret ⟨rfl,rfl,by simp only [tget_puts,Nat.reduceLT,Nat.reduceEqDiff,↓reduceIte]⟩
theorem glast_ok (C:CodeOkC E) (G:GrC E) {K:Nat} {H:AHeap} {n v:Int} {xp xl y:AVal} {pl:List Prr} {tl:List Trp} {to:List Int} (hp:PReads K H xp pl) (hl:TReads K H xl tl) (hy:Reads K H y (intVals to)) (hK:K≤H.nx.toNat) (hfirst:CallS E 4 [] H (.bool true) H) :∃ H',CallS E 3 [.int .i64 n,xp,xl,.int .i64 v,y] H (.bool true) H':=by
 suffices h:∃ w H',CallS E 3 [.int .i64 n,xp,xl,.int .i64 v,y] H w H'∧w = .bool true by obtain ⟨w,H',h,rfl⟩:=h; exact ⟨H',h⟩
 refine CallS.by (R:=fun w H'=>w = .bool true) (t0:=tput (tput (tput (tput (tput .l (some (Pos.ofNat 0)) (.int .i64 n)) (some (Pos.ofNat 1)) xp) (some (Pos.ofNat 2)) xl) (some (Pos.ofNat 3)) (.int .i64 v)) (some (Pos.ofNat 4)) y) (C.s _ rfl) rfl C.f3 rfl ?_
 refine W.seq (W.region ?_)
 simp (maxDischargeDepth:=9) only [auW,auC,auT,lget,BEq.rfl,beq_self_eq_true,decide_true,decide_false,reduceCtorEq,Nat.reduceLT,Nat.reduceEqDiff,↓reduceIte,g3r0]
 simp only [andThen]
 refine W.seq (W.region ?_)
 simp (maxDischargeDepth:=9) only [auW,auC,auT,lget,BEq.rfl,beq_self_eq_true,decide_true,decide_false,reduceCtorEq,Nat.reduceLT,Nat.reduceEqDiff,↓reduceIte,g3r1]
 refine wo_callE (hfirst) (by simp only [auT,Nat.reduceLT,Nat.reduceEqDiff,↓reduceIte]) ?_
 simp (maxDischargeDepth:=9) only [auW,auC,auT,lget,BEq.rfl,beq_self_eq_true,decide_true,decide_false,reduceCtorEq,Nat.reduceLT,Nat.reduceEqDiff,↓reduceIte]
 simp only [andThen]
 obtain ⟨_,H1,c1,pt,nn,g,h,vc,vl,v5,v6,ps,ts,rfl,hnn,hpt,T1,G1,G2,x1,w1,w2,b1,b2,k1⟩:=found_ok C G (n:=n) hp hl hK
 have n1:=k1.nx
 refine W.seq (W.region ?_)
 simp (maxDischargeDepth:=9) only [auW,auC,auT,lget,BEq.rfl,beq_self_eq_true,decide_true,decide_false,reduceCtorEq,Nat.reduceLT,Nat.reduceEqDiff,↓reduceIte,g3r2]
 refine wo_callE (c1) (by simp only [auT,Nat.reduceLT,Nat.reduceEqDiff,↓reduceIte]) ?_
 simp (maxDischargeDepth:=9) only [auW,auC,auT,lget,BEq.rfl,beq_self_eq_true,decide_true,decide_false,reduceCtorEq,Nat.reduceLT,Nat.reduceEqDiff,↓reduceIte]
 simp only [andThen]
 have hl1:TReads K H1 xl tl:=hl.keep k1 hK
 have hy1:Reads K H1 y (intVals to):=hy.keep k1 hK
 have fl:=hl1.fLen
 have fy:=IReads.fLen hy1
 have hret:∀ t:PT AVal,tget t (Pos.ofNat 11) = .bool true→tget t (Pos.ofNat 13) = .bool true→W E (.seq (.region g3r4) .ret) none ⟨t,[]⟩ H1 (fun e a H=>e = .ret∧a.ds = []∧tget a.t (Pos.ofNat 10) = .bool true):=by
  intro t h11 h13
  refine W.seq (W.region ?_)
  simp (maxDischargeDepth:=9) only [auW,auC,auT,lget,BEq.rfl,beq_self_eq_true,decide_true,decide_false,reduceCtorEq,Nat.reduceLT,Nat.reduceEqDiff,↓reduceIte,g3r4,h11,h13]
  simp only [andThen]
  exact W.ret ⟨by trivial,by trivial,by simp only [tget_puts,Nat.reduceLT,Nat.reduceEqDiff,↓reduceIte]⟩
 refine W.seq (W.seq (W.region ?_))
 by_cases h1:3000 < to.length
 ·simp (maxDischargeDepth:=9) only [auW,auC,auT,lget,BEq.rfl,beq_self_eq_true,decide_true,decide_false,reduceCtorEq,Nat.reduceLT,Nat.reduceEqDiff,↓reduceIte,g3r3,fl,fy,h1,wantUD]
  simp only [andThen]
  refine W.cond_true (by simp [AOpnd.ev,tget_puts]) (W.mono (hret _ ?_ ?_) ?_)
  ·simp only [tget_puts,Nat.reduceLT,Nat.reduceEqDiff,↓reduceIte]
  ·simp only [tget_puts,Nat.reduceLT,Nat.reduceEqDiff,↓reduceIte]
  rintro e a H' ⟨rfl,hd,h6⟩
  refine ⟨.inr rfl,hd,.bool true,?_,rfl⟩
  simp [resultA,g3,h6]
 by_cases h2:3000 < tl.length
 ·simp (maxDischargeDepth:=9) only [auW,auC,auT,lget,BEq.rfl,beq_self_eq_true,decide_true,decide_false,reduceCtorEq,Nat.reduceLT,Nat.reduceEqDiff,↓reduceIte,g3r3,fl,fy,h1,h2,wantUD]
  simp only [andThen]
  refine W.cond_true (by simp [AOpnd.ev,tget_puts]) (W.mono (hret _ ?_ ?_) ?_)
  ·simp only [tget_puts,Nat.reduceLT,Nat.reduceEqDiff,↓reduceIte]
  ·simp only [tget_puts,Nat.reduceLT,Nat.reduceEqDiff,↓reduceIte]
  rintro e a H' ⟨rfl,hd,h6⟩
  refine ⟨.inr rfl,hd,.bool true,?_,rfl⟩
  simp [resultA,g3,h6]
 simp (maxDischargeDepth:=9) only [auW,auC,auT,lget,BEq.rfl,beq_self_eq_true,decide_true,decide_false,reduceCtorEq,Nat.reduceLT,Nat.reduceEqDiff,↓reduceIte,g3r3,fl,fy,h1,h2,wantUD]
 simp only [andThen]
 refine W.cond_false (by simp [AOpnd.ev,tget_puts]) (W.skip ?_)
 simp only [andThen]
 have hnl:=netT_len tl
 obtain ⟨v2,H2,c2,f2,k2⟩:=net_call C.s7 hl1 (by omega)
 have n2:=k2.nx
 obtain ⟨_,H3,c3,⟨b3,rfl,g3,g30,g31⟩,k3⟩:=changes_ok C f2.reads (Nat.le_refl _) (by omega)
 have n3:=k3.nx
 have r3:TReads H3.nx.toNat H3 (.sl b3 0 (netT tl).length (netT tl).length 0) (netT tl):=.inr ⟨b3,0,_,0,rfl,by rw [hloadN_at g3 (by rw [tripVals_length]; omega),List.drop_zero,List.take_of_length_le (by rw [tripVals_length]; omega)],g31,.inl rfl,Nat.le_refl _⟩
 refine W.seq (W.region ?_)
 simp (maxDischargeDepth:=9) only [auW,auC,auT,lget,BEq.rfl,beq_self_eq_true,decide_true,decide_false,reduceCtorEq,Nat.reduceLT,Nat.reduceEqDiff,↓reduceIte,g3r5]
 refine wo_callE (c2) (by simp only [auT,Nat.reduceLT,Nat.reduceEqDiff,↓reduceIte]) ?_
 refine wo_callE (c3) (by simp only [auT,Nat.reduceLT,Nat.reduceEqDiff,↓reduceIte]) ?_
 simp (maxDischargeDepth:=9) only [auW,auC,auT,lget,BEq.rfl,beq_self_eq_true,decide_true,decide_false,reduceCtorEq,Nat.reduceLT,Nat.reduceEqDiff,↓reduceIte]
 simp only [andThen]
 obtain ⟨v4,H4,c4,f4,k4⟩:=net_call C.s7 r3 (by omega)
 rw [netT_netT] at f4
 have n4:=k4.nx
 have r4:=(r3.keep k4 (Nat.le_refl _)).mono n4
 have c5:=same_ok C f4.reads r4 (by omega)
 refine W.seq (W.region ?_)
 simp (maxDischargeDepth:=9) only [auW,auC,auT,lget,BEq.rfl,beq_self_eq_true,decide_true,decide_false,reduceCtorEq,Nat.reduceLT,Nat.reduceEqDiff,↓reduceIte,g3r6]
 refine wo_callE (c4) (by simp only [auT,Nat.reduceLT,Nat.reduceEqDiff,↓reduceIte]) ?_
 simp (maxDischargeDepth:=9) only [auW,auC,auT,lget,BEq.rfl,beq_self_eq_true,decide_true,decide_false,reduceCtorEq,Nat.reduceLT,Nat.reduceEqDiff,↓reduceIte]
 refine wo_callE (c5) (by simp only [auT,Nat.reduceLT,Nat.reduceEqDiff,↓reduceIte]) ?_
 simp (maxDischargeDepth:=9) only [auW,auC,auT,lget,BEq.rfl,beq_self_eq_true,decide_true,decide_false,reduceCtorEq,Nat.reduceLT,Nat.reduceEqDiff,↓reduceIte]
 simp only [andThen]
 refine W.seq (W.seq (W.region ?_))
 simp (maxDischargeDepth:=9) only [auW,auC,auT,lget,BEq.rfl,beq_self_eq_true,decide_true,decide_false,reduceCtorEq,Nat.reduceLT,Nat.reduceEqDiff,↓reduceIte,g3r7]
 simp only [andThen]
 generalize hx:AVal.sl b3 0 (netT tl).length (netT tl).length 0 = x at r3 r4 c5 ⊢
 refine W.block (W.mono (rise_loop (t0:=_) r4 (netT_lt tl) (netT_sorted tl) (by omega) (netT tl).length _ _ ⟨0,by omega,?_,?_,rfl,Pres.refl _ _⟩) ?_)
 ·simp only [tget_puts,Nat.reduceLT,Nat.reduceEqDiff,↓reduceIte]
 ·simp only [tget_puts,Nat.reduceLT,Nat.reduceEqDiff,↓reduceIte]
 rintro e ⟨t',ds⟩ H' ⟨rfl,hd,rfl,p4⟩
 have hd:ds = []:=hd
 subst hd
 have q2:tget t' (Pos.ofNat 2) = xl:=by rw [p4 2 (by simp)]; simp only [tget_puts,Nat.reduceLT,Nat.reduceEqDiff,↓reduceIte]
 have q3:tget t' (Pos.ofNat 3) = .int .i64 v:=by rw [p4 3 (by simp)]; simp only [tget_puts,Nat.reduceLT,Nat.reduceEqDiff,↓reduceIte]
 have q4:tget t' (Pos.ofNat 4) = y:=by rw [p4 4 (by simp)]; simp only [tget_puts,Nat.reduceLT,Nat.reduceEqDiff,↓reduceIte]
 have q12:tget t' (Pos.ofNat 12) = .ptr pt 0:=by rw [p4 12 (by simp)]; simp only [tget_puts,Nat.reduceLT,Nat.reduceEqDiff,↓reduceIte]
 have q14:tget t' (Pos.ofNat 14) = x:=by rw [p4 14 (by simp)]; simp only [tget_puts,Nat.reduceLT,Nat.reduceEqDiff,↓reduceIte]
 have q15:tget t' (Pos.ofNat 15) = .bool true:=by rw [p4 15 (by simp)]; simp only [tget_puts,Nat.reduceLT,Nat.reduceEqDiff,↓reduceIte]
 clear p4
 simp only [andThen,inBlock,beq_t]
 have hl4:TReads H'.nx.toNat H' xl tl:=(((hl1.keep k2 (by omega)).keep k3 (by omega)).keep k4 (by omega)).mono (by omega)
 have hy4:Reads H'.nx.toNat H' y (intVals to):=(((hy1.keep k2 (by omega)).keep k3 (by omega)).keep k4 (by omega)).mono (by omega)
 have hal:=adjT_length v (netT tl)
 have hml:=mergeZ_length v to (adjT v (netT tl))
 obtain ⟨_,H5,c6,⟨b5,z5,rfl,g5,g50,g51⟩,k5⟩:=merge_ok C v hy4 hl4 (Nat.le_refl _) (by omega) (by omega)
 have n5:=k5.nx
 obtain ⟨_,H6,c7,⟨b6,z6,rfl,g6,g60,g61⟩,k6⟩:=merge_ok C v ((hy4.keep k5 (Nat.le_refl _)).mono n5) ((r4.keep k5 (Nat.le_refl _)).mono n5) (Nat.le_refl _) (by omega) (by omega)
 rw [netT_netT] at c7 g6
 have n6:=k6.nx
 have c8:=isame_ok C (((mres_reads g5 g51).keep k6 (Nat.le_refl _)).mono n6) (mres_reads g6 g61) (by omega)
 refine W.seq (W.region ?_)
 simp (maxDischargeDepth:=9) only [auW,auC,auT,lget,BEq.rfl,beq_self_eq_true,decide_true,decide_false,reduceCtorEq,Nat.reduceLT,Nat.reduceEqDiff,↓reduceIte,g3r13,q2,q3,q4,q14]
 refine wo_callE (c6) (by simp only [auT,Nat.reduceLT,Nat.reduceEqDiff,↓reduceIte]) ?_
 simp (maxDischargeDepth:=9) only [auW,auC,auT,lget,BEq.rfl,beq_self_eq_true,decide_true,decide_false,reduceCtorEq,Nat.reduceLT,Nat.reduceEqDiff,↓reduceIte,q2,q3,q4,q14]
 refine wo_callE (c7) (by simp only [auT,Nat.reduceLT,Nat.reduceEqDiff,↓reduceIte]) ?_
 refine wo_callE (c8) (by simp only [auT,Nat.reduceLT,Nat.reduceEqDiff,↓reduceIte]) ?_
 simp (maxDischargeDepth:=9) only [auW,auC,auT,lget,BEq.rfl,beq_self_eq_true,decide_true,decide_false,reduceCtorEq,Nat.reduceLT,Nat.reduceEqDiff,↓reduceIte]
 simp only [andThen]
 have hcl:=chAll_length (ps.map addT) []
 rw [List.length_map] at hcl
 simp only [List.length_nil] at hcl
 have kk:Keep H1.nx.toNat H1 H6:=(k2.trans ((k3.mono n2).trans ((k4.mono (by omega)).trans ((k5.mono (by omega)).trans (k6.mono (by omega))))))
 refine W.mono (last_rest C G (T1.keep kk T1.2.2) hnn (G1.keep kk (Nat.le_refl _)) (G2.keep kk (Nat.le_refl _)) (x1.keep kk (Nat.le_refl _)) (by omega) w2 (by omega) b2 ?_ ?_ ?_) ?_
 ·simp only [tget_puts,Nat.reduceLT,Nat.reduceEqDiff,↓reduceIte,q12]
 ·simp only [tget_puts,Nat.reduceLT,Nat.reduceEqDiff,↓reduceIte,q15]
 ·simp only [tget_puts,Nat.reduceLT,Nat.reduceEqDiff,↓reduceIte]
 rintro e a H' ⟨rfl,hd,h6⟩
 refine ⟨.inr rfl,hd,.bool true,?_,rfl⟩
 simp [resultA,Go.Am.g3,h6]
end
end Go.Am
end
