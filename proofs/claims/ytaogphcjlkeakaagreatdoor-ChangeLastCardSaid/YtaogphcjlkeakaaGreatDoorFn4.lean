/- Part of the proof: AmH8, AmH9, AmH10, AmH11. -/
import Derived.Test.YtaogphcjlkeakaaGreatDoorFn2
import Derived.Test.YtaogphcjlkeakaaGreatDoorGr1
import Derived.Test.YtaogphcjlkeakaaGreatDoorFn3
set_option linter.unusedSimpArgs false
set_option linter.unusedVariables false
section
namespace Go.Am
open Go Go.RowKit
abbrev digitsL:List Nat:=[48,49,50,51,52,53,54,55,56,57,97,98,99,100,101,102,103,104,105,106,107,108,109,110,111,112,113,114,115,116,117,118,119,120,121,122]
abbrev smallsL:List Nat:=[48,48,48,49,48,50,48,51,48,52,48,53,48,54,48,55,48,56,48,57,49,48,49,49,49,50,49,51,49,52,49,53,49,54,49,55,49,56,49,57,50,48,50,49,50,50,50,51,50,52,50,53,50,54,50,55,50,56,50,57,51,48,51,49,51,50,51,51,51,52,51,53,51,54,51,55,51,56,51,57,52,48,52,49,52,50,52,51,52,52,52,53,52,54,52,55,52,56,52,57,53,48,53,49,53,50,53,51,53,52,53,53,53,54,53,55,53,56,53,57,54,48,54,49,54,50,54,51,54,52,54,53,54,54,54,55,54,56,54,57,55,48,55,49,55,50,55,51,55,52,55,53,55,54,55,55,55,56,55,57,56,48,56,49,56,50,56,51,56,52,56,53,56,54,56,55,56,56,56,57,57,48,57,49,57,50,57,51,57,52,57,53,57,54,57,55,57,56,57,57]
def BytesV (l:List AVal) :Prop:=∀ a ∈ l,∃ c:Nat,a = .int .u8 (.ofNat c)
theorem BytesV.append {a b:List AVal} (h:BytesV a) (k:BytesV b) :BytesV (a ++ b):=fun x hx=>by
 rcases List.mem_append.1 hx with hx | hx
 ·exact h x hx
 ·exact k x hx
theorem bytes_cells:∀ s:List Nat,BytesV (cellsOfBytes s)∧(cellsOfBytes s).length = s.length∧allScal (cellsOfBytes s) = true
 | []=>⟨(fun _ h=>by cases h),rfl,rfl⟩
 | c :: s=>by
  obtain ⟨h1,h2,h3⟩:=bytes_cells s
  refine ⟨fun a ha=>?_,by simp [cellsOfBytes,h2],by simpa [cellsOfBytes,allScal,isScal] using h3⟩
  simp only [cellsOfBytes,List.mem_cons] at ha
  rcases ha with rfl | ha
  ·exact ⟨c,rfl⟩
  ·exact h1 a ha
theorem subStr_len (s:List Nat) (l h:Nat) :(subStr s l h).length≤h - l:=by
 exact List.length_take_le (h - l) (s.drop l)
theorem slice_str {t:PT AVal} {L:List Nat} {X Y:AOpnd} {l h:Nat} (hX:X.ev t = .int .i64 (.ofNat l)) (hY:Y.ev t = .int .i64 (.ofNat h)) (h1:l≤h) (h2:h≤L.length) :sliceA t .str (.str L) (some X) (some Y) none = some (.str (subStr L l h)):=by
 have e1:Nat.ble h L.length = true:=ble_t h2
 have e2:Nat.ble l h = true:=ble_t h1
 simp only [sliceA,boundOf,hX,hY,natOf,e1,e2]
theorem u_lss (i j:Nat) :binOpA .lss (.int .u64 (.ofNat i)) (.int .u64 (.ofNat j)) = some (.bool (decide (i < j))):=by
 show some (AVal.bool (Nat.blt i j)) = _
 rw [blt_dec]
theorem u_to {j:Nat} (h:j < 1000) :fToInt .u64 (.int .i64 (.ofNat j)) = some (.int .u64 (.ofNat j)):=by
 show some (AVal.int .u64 (.ofNat (j % 18446744073709551616))) = _
 rw [Nat.mod_eq_of_lt (by omega)]
theorem u_from {j:Nat} (h:j < 1000) :fToInt .i64 (.int .u64 (.ofNat j)) = some (.int .i64 (.ofNat j)):=by
 show some (AVal.int .i64 (wrapI .i64 (.ofNat j))) = _
 rw [wrap_nat (by omega)]
section
variable {E:Env}
theorem small_ok (C:CodeOkC E) {H:AHeap} {j:Nat} (hj:j < 100) :∃ s:List Nat,s.length≤2∧CallS E 273 [.int .i64 (.ofNat j)] H (.str s) H:=by
 suffices h:∃ v H',CallS E 273 [.int .i64 (.ofNat j)] H v H'∧(∃ s:List Nat,v = .str s∧s.length≤2)∧H' = H by
  obtain ⟨v,H',h,⟨s,rfl,h2⟩,rfl⟩:=h
  exact ⟨s,h2,h⟩
 refine CallS.by (R:=fun v H'=>(∃ s:List Nat,v = .str s∧s.length≤2)∧H' = H) (t0:=tput .l (some (Pos.ofNat 0)) (.int .i64 (.ofNat j))) (C.s _ rfl) rfl C.f273 rfl ?_
 refine W.seq (W.region ?_)
 simp (maxDischargeDepth:=9) only [auW,auC,auT,lget,BEq.rfl,beq_self_eq_true,decide_true,decide_false,reduceCtorEq,Nat.reduceLT,Nat.reduceEqDiff,↓reduceIte,g273r0]
 refine W.seq (W.seq (W.region ?_))
 simp (maxDischargeDepth:=9) only [auW,auC,auT,lget,BEq.rfl,beq_self_eq_true,decide_true,decide_false,reduceCtorEq,Nat.reduceLT,Nat.reduceEqDiff,↓reduceIte,g273r1]
 simp only [andThen]
 refine W.cond_if (p:=j < 10) (by simp [AOpnd.ev,tget_puts]) (fun hlt=>W.seq (W.region ?_)) (fun hge=>W.skip ?_)
 ·have hs:∀ t:PT AVal,tget t (Pos.ofNat 5) = .int .i64 (.ofNat j)→tget t (Pos.ofNat 7) = .int .i64 (.ofNat (j + 1))→sliceA t .str (.str digitsL) (some (.t (Pos.ofNat 5))) (some (.t (Pos.ofNat 7))) none = some (.str (subStr digitsL j (j + 1))):=fun t h5 h7=>slice_str h5 h7 (by omega) (by show j + 1≤36; omega)
  simp (maxDischargeDepth:=9) only [auW,auC,auT,lget,BEq.rfl,beq_self_eq_true,decide_true,decide_false,reduceCtorEq,Nat.reduceLT,Nat.reduceEqDiff,↓reduceIte,g273r2,b_add (show j + 1≤9223372036854775807 by omega),hs]
  refine W.ret ⟨.inr rfl,rfl,.str (subStr digitsL j (j + 1)),?_,⟨_,rfl,by have:=subStr_len digitsL j (j + 1); omega⟩,rfl⟩
  simp [resultA,g273,tget_puts]
 ·simp only [andThen]
  have hs:∀ t:PT AVal,tget t (Pos.ofNat 10) = .int .i64 (.ofNat (j * 2))→tget t (Pos.ofNat 13) = .int .i64 (.ofNat (j * 2 + 2))→sliceA t .str (.str smallsL) (some (.t (Pos.ofNat 10))) (some (.t (Pos.ofNat 13))) none = some (.str (subStr smallsL (j * 2) (j * 2 + 2))):=fun t h5 h7=>slice_str h5 h7 (by omega) (by show j * 2 + 2≤200; omega)
  refine W.seq (W.region ?_)
  simp (maxDischargeDepth:=9) only [auW,auC,auT,lget,BEq.rfl,beq_self_eq_true,decide_true,decide_false,reduceCtorEq,Nat.reduceLT,Nat.reduceEqDiff,↓reduceIte,g273r3,b_mul (show j * 2≤9223372036854775807 by omega),b_add (show j * 2 + 2≤9223372036854775807 by omega),hs]
  refine W.ret ⟨.inr rfl,rfl,.str (subStr smallsL (j * 2) (j * 2 + 2)),?_,⟨_,rfl,by have:=subStr_len smallsL (j * 2) (j * 2 + 2); omega⟩,rfl⟩
  simp [resultA,g273,tget_puts]
def Line (N:Nat) (H:AHeap) (v:AVal) (most:Nat) :Prop:=∃ n cs,GN 1 N H v n cs∧BytesV cs∧n≤most
theorem Line.mono {N:Nat} {H:AHeap} {v:AVal} {a b:Nat} (h:Line N H v a) (k:a≤b) :Line N H v b:=by
 obtain ⟨n,cs,h1,h2,h3⟩:=h
 exact ⟨n,cs,h1,h2,by omega⟩
theorem Line.keep {N K:Nat} {H H':AHeap} {v:AVal} {a:Nat} (h:Line N H v a) (k:Keep K H H') (hK:H.nx.toNat≤K) :Line N H' v a:=by
 obtain ⟨n,cs,h1,h2,h3⟩:=h
 exact ⟨n,cs,h1.keep k hK,h2,h3⟩
theorem line_str {N:Nat} {H:AHeap} {v:AVal} {a:Nat} (h:Line N H v a) (hN:N≤H.nx.toNat) {s:List Nat} (hb:a + s.length≤1000000) :∃ v' H',appendA H 1 1 v (.str s) = some (v',H')∧Line N H' v' (a + s.length)∧Fr v H v' H':=by
 obtain ⟨n,cs,h1,h2,h3⟩:=h
 obtain ⟨b1,b2,b3⟩:=bytes_cells s
 obtain ⟨v',H',e1,e2,e3⟩:=append_gn (by':=1) (by omega) h1 hN (x:=.str s) (m:=s.length) (c:=cellsOfBytes s) (by
  unfold srcCells
  rfl) (by rw [b2]; omega) b3 (by omega)
 exact ⟨v',H',e1,⟨_,_,e2,h2.append b1,by omega⟩,e3⟩
theorem line_one {N:Nat} {H:AHeap} {v:AVal} {a:Nat} (h:Line N H v a) (hN:N≤H.nx.toNat) {c:Nat} (hb:a + 1≤1000000) :∃ v' H',appendA (H.new (.cells [.int .u8 (.ofNat c)] false false)).2 1 1 v (.sl H.nx 0 1 1 0) = some (v',H')∧Line N H' v' (a + 1)∧Fr v H v' H':=by
 have k1:Keep H.nx.toNat H (H.new (.cells [.int .u8 (.ofNat c)] false false)).2:=keep_new
 have hs:srcCells (H.new (.cells [.int .u8 (.ofNat c)] false false)).2 1 (.sl H.nx 0 1 1 0) = some (1,[.int .u8 (.ofNat c)]):=src_new (l:=[.int .u8 (.ofNat c)])
 have hn:(H.new (.cells [.int .u8 (.ofNat c)] false false)).2.nx.toNat = H.nx.toNat + 1:=nx_new
 generalize (H.new (.cells [.int .u8 (.ofNat c)] false false)).2 = H1 at k1 hs hn ⊢
 obtain ⟨n,cs,h1,h2,h3⟩:=h
 obtain ⟨v',H',e1,e2,e3⟩:=append_gn (by':=1) (by omega) (h1.keep k1 (Nat.le_refl _)) (by omega) hs (by rfl) rfl (by omega)
 refine ⟨v',H',e1,⟨_,_,e2,h2.append (fun x hx=>?_),by omega⟩,(Fr.of_keep k1).trans e3⟩
 simp only [List.mem_singleton] at hx
 exact ⟨c,hx⟩
theorem appendUint_ok (C:CodeOkC E) {N:Nat} {H:AHeap} {v:AVal} {a j:Nat} (h:Line N H v a) (hN:N≤H.nx.toNat) (hj:j < 100) (hb:a + 2≤1000000) :∃ v' H',CallS E 265 [v,.int .u64 (.ofNat j),.int .i64 (.ofNat 10)] H v' H'∧Line N H' v' (a + 2)∧Fr v H v' H':=by
 refine CallS.by (R:=fun v' H'=>Line N H' v' (a + 2)∧Fr v H v' H') (t0:=tput (tput (tput .l (some (Pos.ofNat 0)) v) (some (Pos.ofNat 1)) (.int .u64 (.ofNat j))) (some (Pos.ofNat 2)) (.int .i64 (.ofNat 10))) (C.s _ rfl) rfl C.f265 rfl ?_
 refine W.seq (W.region ?_)
 simp (maxDischargeDepth:=9) only [auW,auC,auT,lget,BEq.rfl,beq_self_eq_true,decide_true,decide_false,reduceCtorEq,Nat.reduceLT,Nat.reduceEqDiff,↓reduceIte,g265r0]
 refine W.seq (W.seq (W.region ?_))
 simp (maxDischargeDepth:=9) only [auW,auC,auT,lget,BEq.rfl,beq_self_eq_true,decide_true,decide_false,reduceCtorEq,Nat.reduceLT,Nat.reduceEqDiff,↓reduceIte,g265r1]
 simp only [andThen]
 refine W.cond_true (by simp [AOpnd.ev,tget_puts]) (W.seq (W.seq (W.region ?_)))
 simp (maxDischargeDepth:=9) only [auW,auC,auT,lget,BEq.rfl,beq_self_eq_true,decide_true,decide_false,reduceCtorEq,Nat.reduceLT,Nat.reduceEqDiff,↓reduceIte,g265r2,u_lss]
 simp only [andThen]
 obtain ⟨s,hs,hc⟩:=small_ok C (H:=H) hj
 obtain ⟨v',H',e1,e2,e3⟩:=line_str h hN (s:=s) (by omega)
 refine W.cond_true (by simp [AOpnd.ev,tget_puts,hj]) (W.seq (W.region ?_))
 simp (maxDischargeDepth:=9) only [auW,auC,auT,lget,BEq.rfl,beq_self_eq_true,decide_true,decide_false,reduceCtorEq,Nat.reduceLT,Nat.reduceEqDiff,↓reduceIte,g265r3,u_from (show j < 1000 by omega)]
 refine wo_callE (hc) (by simp only [auT,Nat.reduceLT,Nat.reduceEqDiff,↓reduceIte]) ?_
 refine wo_appendE e1 (by simp only [auT,Nat.reduceLT,Nat.reduceEqDiff,↓reduceIte]) (by simp only [auT,Nat.reduceLT,Nat.reduceEqDiff,↓reduceIte]) ?_
 simp (maxDischargeDepth:=9) only [auW,auC,auT,lget,BEq.rfl,beq_self_eq_true,decide_true,decide_false,reduceCtorEq,Nat.reduceLT,Nat.reduceEqDiff,↓reduceIte]
 refine W.ret ⟨.inr rfl,rfl,v',?_,e2.mono (by omega),e3⟩
 simp [resultA,g265,tget_puts]
theorem appendInt_ok (C:CodeOkC E) {N:Nat} {H:AHeap} {v:AVal} {a j:Nat} (h:Line N H v a) (hN:N≤H.nx.toNat) (hj:j < 100) (hb:a + 2≤1000000) :∃ v' H',CallS E 196 [v,.int .i64 (.ofNat j),.int .i64 (.ofNat 10)] H v' H'∧Line N H' v' (a + 2)∧Fr v H v' H':=by
 obtain ⟨v',H',hc,e2,e3⟩:=appendUint_ok C h hN hj hb
 refine CallS.by (R:=fun v' H'=>Line N H' v' (a + 2)∧Fr v H v' H') (t0:=tput (tput (tput .l (some (Pos.ofNat 0)) v) (some (Pos.ofNat 1)) (.int .i64 (.ofNat j))) (some (Pos.ofNat 2)) (.int .i64 (.ofNat 10))) (C.s _ rfl) rfl C.f196 rfl ?_
 refine W.seq (W.region ?_)
 simp (maxDischargeDepth:=9) only [auW,auC,auT,lget,BEq.rfl,beq_self_eq_true,decide_true,decide_false,reduceCtorEq,Nat.reduceLT,Nat.reduceEqDiff,↓reduceIte,g196r0]
 refine W.seq (W.region ?_)
 simp (maxDischargeDepth:=9) only [auW,auC,auT,lget,BEq.rfl,beq_self_eq_true,decide_true,decide_false,reduceCtorEq,Nat.reduceLT,Nat.reduceEqDiff,↓reduceIte,g196r1,u_to (show j < 1000 by omega)]
 refine W.seq (W.seq (W.region ?_))
 simp (maxDischargeDepth:=9) only [auW,auC,auT,lget,BEq.rfl,beq_self_eq_true,decide_true,decide_false,reduceCtorEq,Nat.reduceLT,Nat.reduceEqDiff,↓reduceIte,g196r2,Nat.not_lt_zero]
 simp only [andThen]
 refine W.cond_false (by simp [AOpnd.ev,tget_puts]) (W.skip ?_)
 simp only [andThen]
 refine W.seq (W.region ?_)
 simp (maxDischargeDepth:=9) only [auW,auC,auT,lget,BEq.rfl,beq_self_eq_true,decide_true,decide_false,reduceCtorEq,Nat.reduceLT,Nat.reduceEqDiff,↓reduceIte,g196r5]
 refine wo_callE (hc) (by simp only [auT,Nat.reduceLT,Nat.reduceEqDiff,↓reduceIte]) ?_
 simp (maxDischargeDepth:=9) only [auW,auC,auT,lget,BEq.rfl,beq_self_eq_true,decide_true,decide_false,reduceCtorEq,Nat.reduceLT,Nat.reduceEqDiff,↓reduceIte]
 refine W.ret ⟨.inr rfl,rfl,v',?_,e2,e3⟩
 simp [resultA,g196,tget_puts]
theorem appendI_ok (C:CodeOkC E) {N:Nat} {H:AHeap} {v:AVal} {a j:Nat} (h:Line N H v a) (hN:N≤H.nx.toNat) (hj:j < 100) (hb:a + 2≤1000000) :∃ v' H',CallS E 138 [v,.int .i64 (.ofNat j),.int .i64 (.ofNat 10)] H v' H'∧Line N H' v' (a + 2)∧Fr v H v' H':=by
 obtain ⟨v',H',hc,e2,e3⟩:=appendInt_ok C h hN hj hb
 refine CallS.by (R:=fun v' H'=>Line N H' v' (a + 2)∧Fr v H v' H') (t0:=tput (tput (tput .l (some (Pos.ofNat 0)) v) (some (Pos.ofNat 1)) (.int .i64 (.ofNat j))) (some (Pos.ofNat 2)) (.int .i64 (.ofNat 10))) (C.s _ rfl) rfl C.f138 rfl ?_
 refine W.seq (W.region ?_)
 simp (maxDischargeDepth:=9) only [auW,auC,auT,lget,BEq.rfl,beq_self_eq_true,decide_true,decide_false,reduceCtorEq,Nat.reduceLT,Nat.reduceEqDiff,↓reduceIte,g138r0]
 refine W.seq (W.region ?_)
 simp (maxDischargeDepth:=9) only [auW,auC,auT,lget,BEq.rfl,beq_self_eq_true,decide_true,decide_false,reduceCtorEq,Nat.reduceLT,Nat.reduceEqDiff,↓reduceIte,g138r1]
 refine wo_callE (hc) (by simp only [auT,Nat.reduceLT,Nat.reduceEqDiff,↓reduceIte]) ?_
 simp (maxDischargeDepth:=9) only [auW,auC,auT,lget,BEq.rfl,beq_self_eq_true,decide_true,decide_false,reduceCtorEq,Nat.reduceLT,Nat.reduceEqDiff,↓reduceIte]
 refine W.ret ⟨.inr rfl,rfl,v',?_,e2,e3⟩
 simp [resultA,g138,tget_puts]
end
end Go.Am
end

section
namespace Go.Am
open Go Go.RowKit
theorem u8_neq (a b:Int) :binOpA .neq (.int .u8 a) (.int .u8 b) = some (.bool (!decide (a = b))):=by
 show some (AVal.bool (!(eqI a b))) = _
 rw [eqI_dec]
theorem reads_fr {K:Nat} {H0 H:AHeap} {v0 v x:AVal} {l:List AVal} (hx:Reads K H0 x l) (hK:K≤H0.nx.toNat) (hne:∀ b o k c s,x = .sl b o k c s→rowBlk v0 ≠ some b) (f:Fr v0 H0 v H) :Reads K H x l:=by
 rcases hx with h | ⟨b,o,cap,sz,e,h1,h2,h3⟩
 ·exact .inl h
 ·refine .inr ⟨b,o,cap,sz,e,?_,h2,h3⟩
  unfold hloadN at h1 ⊢
  rw [f.get b (by omega) (hne b o _ cap sz e)]
  exact h1
section
variable {E:Env}
theorem row_loop (C:CodeOkC E) {K N a:Nat} {H0:AHeap} {v0 x:AVal} {l:List Int} (hx:Reads K H0 x (intVals l)) (hK:K≤H0.nx.toNat) (hne:∀ b o k c s,x = .sl b o k c s→rowBlk v0 ≠ some b) (hl:l.length≤1000) (hj:∀ z ∈ l,∃ j:Nat,j < 100∧z = .ofNat j) (hN:N≤H0.nx.toNat) (ha:a + 3 * l.length≤999000) {ro:Option Pos} :
  ∀ (q:Nat) (t:PT AVal) (H:AHeap),(∃ i v,i + q = l.length∧tget t (Pos.ofNat 0) = v∧tget t (Pos.ofNat 12) = x∧tget t (Pos.ofNat 13) = .int .i64 (.ofNat l.length)∧tget t (Pos.ofNat 14) = .int .i64 (.ofNat i)∧Line N H v (a + 3 * i)∧Fr v0 H0 v H) →
  W E (.loop g74l9) ro ⟨t,[]⟩ H (fun e a' H'=>e = .exit 0∧a'.ds = []∧∃ v,tget a'.t (Pos.ofNat 0) = v∧Line N H' v (a + 3 * l.length)∧Fr v0 H0 v H'):=by
 refine W.loop_inv (Q:=fun e a' H'=>e = .exit 0∧a'.ds = []∧∃ v,tget a'.t (Pos.ofNat 0) = v∧Line N H' v (a + 3 * l.length)∧Fr v0 H0 v H') _ ?_
 rintro q t H ⟨i,v,hi,h0,h12,h13,h14,hL,hF⟩
 refine W.seq (W.region ?_)
 simp (maxDischargeDepth:=9) only [auW,auC,auT,lget,BEq.rfl,beq_self_eq_true,decide_true,decide_false,reduceCtorEq,Nat.reduceLT,Nat.reduceEqDiff,↓reduceIte,g74r3,h13,h14]
 refine W.seq (W.cond_if (p:=i < l.length) (by simp [AOpnd.ev,tget_puts]) (fun hlt=>W.skip ?_) (fun hge=>W.exit ?_))
 rotate_left
 ·exact ⟨by trivial,by trivial,v,by simp only [tget_puts,Nat.reduceLT,Nat.reduceEqDiff,↓reduceIte,h0],hL.mono (by omega),hF⟩
 simp only [andThen]
 obtain ⟨bx,ox,e1,e2⟩:=IReads.fIdx (reads_fr hx hK hne hF) hlt
 obtain ⟨j,hj1,hj2⟩:=hj _ (List.getElem_mem hlt)
 rw [hj2] at e2
 have hnx:=hF.nx
 refine W.seq (W.block (W.seq (W.region ?_)))
 simp (maxDischargeDepth:=9) only [auW,auC,auT,lget,BEq.rfl,beq_self_eq_true,decide_true,decide_false,reduceCtorEq,Nat.reduceLT,Nat.reduceEqDiff,↓reduceIte,g74r4,h12,h14,e1,fLoad1,e2]
 simp only [andThen]
 have fin:∀ (t':PT AVal) (H2:AHeap) (v2:AVal),tget t' (Pos.ofNat 0) = v2→tget t' (Pos.ofNat 8) = .int .i64 (.ofNat j)→tget t' (Pos.ofNat 12) = x→tget t' (Pos.ofNat 13) = .int .i64 (.ofNat l.length)→tget t' (Pos.ofNat 14) = .int .i64 (.ofNat i)→Line N H2 v2 (a + 3 * i + 1)→Fr v0 H0 v2 H2 →
   W E (.region g74r7) ro ⟨t',[]⟩ H2 (inBlock 1 (andThen (fun a'' H''=>W E (.region g74r8) ro a'' H'' (loopPost [] (fun q t H=>∃ i v,i + q = l.length∧tget t (Pos.ofNat 0) = v∧tget t (Pos.ofNat 12) = x∧tget t (Pos.ofNat 13) = .int .i64 (.ofNat l.length)∧tget t (Pos.ofNat 14) = .int .i64 (.ofNat i)∧Line N H v (a + 3 * i)∧Fr v0 H0 v H) (fun e a' H'=>e = .exit 0∧a'.ds = []∧∃ v,tget a'.t (Pos.ofNat 0) = v∧Line N H' v (a + 3 * l.length)∧Fr v0 H0 v H') q)) (loopPost [] (fun q t H=>∃ i v,i + q = l.length∧tget t (Pos.ofNat 0) = v∧tget t (Pos.ofNat 12) = x∧tget t (Pos.ofNat 13) = .int .i64 (.ofNat l.length)∧tget t (Pos.ofNat 14) = .int .i64 (.ofNat i)∧Line N H v (a + 3 * i)∧Fr v0 H0 v H) (fun e a' H'=>e = .exit 0∧a'.ds = []∧∃ v,tget a'.t (Pos.ofNat 0) = v∧Line N H' v (a + 3 * l.length)∧Fr v0 H0 v H') q))):=by
  intro t' H2 v2 p0 p8 p12 p13 p14 L2 F2
  have hn2:=F2.nx
  obtain ⟨v3,H3,hc,L3,F3⟩:=appendI_ok C L2 (by omega) hj1 (by omega)
  refine W.region ?_
  simp (maxDischargeDepth:=9) only [auW,auC,auT,lget,BEq.rfl,beq_self_eq_true,decide_true,decide_false,reduceCtorEq,Nat.reduceLT,Nat.reduceEqDiff,↓reduceIte,g74r7,p0,p8]
  refine wo_callE (hc) (by simp only [auT,Nat.reduceLT,Nat.reduceEqDiff,↓reduceIte]) ?_
  simp (maxDischargeDepth:=9) only [auW,auC,auT,lget,BEq.rfl,beq_self_eq_true,decide_true,decide_false,reduceCtorEq,Nat.reduceLT,Nat.reduceEqDiff,↓reduceIte]
  simp only [andThen,inBlock]
  refine W.region ?_
  simp (maxDischargeDepth:=9) only [auW,auC,auT,lget,BEq.rfl,beq_self_eq_true,decide_true,decide_false,reduceCtorEq,Nat.reduceLT,Nat.reduceEqDiff,↓reduceIte,g74r8,p14,b_add (show i + 1≤9223372036854775807 by omega)]
  refine ⟨by trivial,q - 1,by omega,i + 1,v3,by omega,?_,?_,?_,?_,L3.mono (by omega),F2.trans F3⟩
  ·simp only [tget_puts,Nat.reduceLT,Nat.reduceEqDiff,↓reduceIte]
  ·simp only [tget_puts,Nat.reduceLT,Nat.reduceEqDiff,↓reduceIte,p12]
  ·simp only [tget_puts,Nat.reduceLT,Nat.reduceEqDiff,↓reduceIte,p13]
  ·simp only [tget_puts,Nat.reduceLT,Nat.reduceEqDiff,↓reduceIte]
 obtain ⟨n,cs,g1,g2,g3⟩:=id hL
 have hlen:=g1.len
 rcases Nat.eq_zero_or_pos n with hz | hz
 ·subst hz
  refine W.seq (W.seq (W.region ?_))
  simp (maxDischargeDepth:=9) only [auW,auC,auT,lget,BEq.rfl,beq_self_eq_true,decide_true,decide_false,reduceCtorEq,Nat.reduceLT,Nat.reduceEqDiff,↓reduceIte,g74r5,h0,hlen,Nat.lt_irrefl]
  simp only [andThen]
  refine W.cond_false (by simp [AOpnd.ev,tget_puts]) (W.skip ?_)
  simp only [andThen]
  exact fin _ _ v (by simp only [tget_puts,Nat.reduceLT,Nat.reduceEqDiff,↓reduceIte,h0]) (by simp only [tget_puts,Nat.reduceLT,Nat.reduceEqDiff,↓reduceIte]) (by simp only [tget_puts,Nat.reduceLT,Nat.reduceEqDiff,↓reduceIte,h12]) (by simp only [tget_puts,Nat.reduceLT,Nat.reduceEqDiff,↓reduceIte,h13]) (by simp only [tget_puts,Nat.reduceLT,Nat.reduceEqDiff,↓reduceIte,h14]) (hL.mono (by omega)) hF
 ·obtain ⟨b,c,f1,f2⟩ :∃ b c,fIdxS 1 v (.int .i64 (.ofNat (n - 1))) = some (.ptr b (0 + (n - 1) * 1))∧hload H b (0 + (n - 1) * 1) = some (.int .u8 (.ofNat c)):=by
   obtain ⟨hcl,⟨_,hn0⟩ | ⟨b,rfl,hb,_,_⟩⟩:=g1
   ·omega
   ·have hlt2:n - 1 < n:=by omega
    have hlt3:0 + (n - 1) * 1 < cs.length:=by omega
    obtain ⟨c,hc⟩:=g2 cs[0 + (n - 1) * 1] (List.getElem_mem hlt3)
    refine ⟨b,c,?_,by rw [hload_at hb hlt3,hc]⟩
    simp only [fIdxS,natOf,blt_t hlt2]
    rfl
  refine W.seq (W.seq (W.region ?_))
  simp (maxDischargeDepth:=9) only [auW,auC,auT,lget,BEq.rfl,beq_self_eq_true,decide_true,decide_false,reduceCtorEq,Nat.reduceLT,Nat.reduceEqDiff,↓reduceIte,g74r5,h0,hlen,hz,b_sub (show 1≤n by omega) (show n≤9223372036854775807 by omega),f1,f2,u8_neq]
  simp only [andThen]
  by_cases hd:c = 10
  ·refine W.cond_false (by simp [AOpnd.ev,tget_puts,hd]) (W.skip ?_)
   simp only [andThen]
   exact fin _ _ v (by simp only [tget_puts,Nat.reduceLT,Nat.reduceEqDiff,↓reduceIte,h0]) (by simp only [tget_puts,Nat.reduceLT,Nat.reduceEqDiff,↓reduceIte]) (by simp only [tget_puts,Nat.reduceLT,Nat.reduceEqDiff,↓reduceIte,h12]) (by simp only [tget_puts,Nat.reduceLT,Nat.reduceEqDiff,↓reduceIte,h13]) (by simp only [tget_puts,Nat.reduceLT,Nat.reduceEqDiff,↓reduceIte,h14]) (hL.mono (by omega)) hF
  ·obtain ⟨v2,H2,c1,L2,F2⟩:=line_one (c:=32) hL (by omega) (by omega)
   refine W.cond_true (by simp [AOpnd.ev,tget_puts,hd]) (W.region ?_)
   simp (maxDischargeDepth:=9) only [auW,auC,auT,lget,BEq.rfl,beq_self_eq_true,decide_true,decide_false,reduceCtorEq,Nat.reduceLT,Nat.reduceEqDiff,↓reduceIte,g74r6,h0]
   refine wo_buildSlice (fill1 (v:=.int .u8 (.ofNat 32)) (by simp [AOpnd.ev]) rfl) ?_
   refine wo_appendE c1 (by simp only [auT,Nat.reduceLT,Nat.reduceEqDiff,↓reduceIte,h0]) (by simp only [auT,Nat.reduceLT,Nat.reduceEqDiff,↓reduceIte]) ?_
   simp (maxDischargeDepth:=9) only [auW,auC,auT,lget,BEq.rfl,beq_self_eq_true,decide_true,decide_false,reduceCtorEq,Nat.reduceLT,Nat.reduceEqDiff,↓reduceIte]
   simp only [andThen]
   exact fin _ _ v2 (by simp only [tget_puts,Nat.reduceLT,Nat.reduceEqDiff,↓reduceIte]) (by simp only [tget_puts,Nat.reduceLT,Nat.reduceEqDiff,↓reduceIte]) (by simp only [tget_puts,Nat.reduceLT,Nat.reduceEqDiff,↓reduceIte,h12]) (by simp only [tget_puts,Nat.reduceLT,Nat.reduceEqDiff,↓reduceIte,h13]) (by simp only [tget_puts,Nat.reduceLT,Nat.reduceEqDiff,↓reduceIte,h14]) L2 (hF.trans F2)
theorem row_ok (C:CodeOkC E) {K N a:Nat} {H:AHeap} {v x:AVal} {l:List Int} {word:List Nat} (hL:Line N H v a) (hx:Reads K H x (intVals l)) (hK:K≤H.nx.toNat) (hne:∀ b o k c s,x = .sl b o k c s→rowBlk v ≠ some b) (hl:l.length≤2) (hj:∀ z ∈ l,∃ j:Nat,j < 100∧z = .ofNat j) (hN:N≤H.nx.toNat) (hw:word.length≤8) (ha:a≤900000) :
  ∃ v' H',CallS E 74 [v,.str word,x] H v' H'∧Line N H' v' (a + 15)∧Fr v H v' H':=by
 refine CallS.by (R:=fun v' H'=>Line N H' v' (a + 15)∧Fr v H v' H') (t0:=tput (tput (tput .l (some (Pos.ofNat 0)) v) (some (Pos.ofNat 1)) (.str word)) (some (Pos.ofNat 2)) x) (C.s _ rfl) rfl C.f74 rfl ?_
 refine W.seq (W.region ?_)
 simp (maxDischargeDepth:=9) only [auW,auC,auT,lget,BEq.rfl,beq_self_eq_true,decide_true,decide_false,reduceCtorEq,Nat.reduceLT,Nat.reduceEqDiff,↓reduceIte,g74r0]
 simp only [andThen]
 obtain ⟨v1,H1,c1,L1,F1⟩:=line_str hL hN (s:=word) (by omega)
 have hn1:=F1.nx
 refine W.seq (W.region ?_)
 simp (maxDischargeDepth:=9) only [auW,auC,auT,lget,BEq.rfl,beq_self_eq_true,decide_true,decide_false,reduceCtorEq,Nat.reduceLT,Nat.reduceEqDiff,↓reduceIte,g74r1]
 refine wo_appendE c1 (by simp only [auT,Nat.reduceLT,Nat.reduceEqDiff,↓reduceIte]) (by simp only [auT,Nat.reduceLT,Nat.reduceEqDiff,↓reduceIte]) ?_
 simp (maxDischargeDepth:=9) only [auW,auC,auT,lget,BEq.rfl,beq_self_eq_true,decide_true,decide_false,reduceCtorEq,Nat.reduceLT,Nat.reduceEqDiff,↓reduceIte]
 simp only [andThen]
 have hx1:=reads_fr hx hK hne F1
 have hne1:∀ b o k c s,x = .sl b o k c s→rowBlk v1 ≠ some b:=by
  intro b o k c s e hb
  rcases F1.own b hb with h | h
  ·exact hne b o k c s e h
  ·rcases hx with ⟨h2,_⟩ | ⟨b',_,_,_,h2,_,h3,_⟩
   ·rw [e] at h2; cases h2
   ·rw [e] at h2; cases h2; omega
 have hlx:=IReads.fLen hx1
 refine W.seq (W.seq (W.region ?_))
 simp (maxDischargeDepth:=9) only [auW,auC,auT,lget,BEq.rfl,beq_self_eq_true,decide_true,decide_false,reduceCtorEq,Nat.reduceLT,Nat.reduceEqDiff,↓reduceIte,g74r2,hlx]
 simp only [andThen]
 refine W.block (W.mono (row_loop C (a:=a + word.length) hx1 (by omega) hne1 (by omega) hj (by omega) (by omega) l.length _ _ ⟨0,v1,by omega,?_,?_,?_,?_,L1,Fr.refl _ _⟩) ?_)
 ·simp only [tget_puts,Nat.reduceLT,Nat.reduceEqDiff,↓reduceIte]
 ·simp only [tget_puts,Nat.reduceLT,Nat.reduceEqDiff,↓reduceIte]
 ·simp only [tget_puts,Nat.reduceLT,Nat.reduceEqDiff,↓reduceIte]
 ·simp only [tget_puts,Nat.reduceLT,Nat.reduceEqDiff,↓reduceIte]
 rintro e ⟨t',ds⟩ H2 ⟨rfl,hd,v2,q0,L2,F2⟩
 have hd:ds = []:=hd
 subst hd
 have q0:tget t' (Pos.ofNat 0) = v2:=q0
 simp only [andThen,inBlock,beq_t]
 have hn2:=F2.nx
 obtain ⟨v3,H3,c3,L3,F3⟩:=line_one (c:=10) L2 (by omega) (by omega)
 refine W.seq (W.region ?_)
 simp (maxDischargeDepth:=9) only [auW,auC,auT,lget,BEq.rfl,beq_self_eq_true,decide_true,decide_false,reduceCtorEq,Nat.reduceLT,Nat.reduceEqDiff,↓reduceIte,g74r10,q0]
 refine wo_buildSlice (fill1 (v:=.int .u8 (.ofNat 10)) (by simp [AOpnd.ev]) rfl) ?_
 refine wo_appendE c3 (by simp only [auT,Nat.reduceLT,Nat.reduceEqDiff,↓reduceIte,q0]) (by simp only [auT,Nat.reduceLT,Nat.reduceEqDiff,↓reduceIte]) ?_
 simp (maxDischargeDepth:=9) only [auW,auC,auT,lget,BEq.rfl,beq_self_eq_true,decide_true,decide_false,reduceCtorEq,Nat.reduceLT,Nat.reduceEqDiff,↓reduceIte]
 refine W.ret ⟨.inr rfl,rfl,v3,?_,L3.mono (by omega),F1.trans (F2.trans F3)⟩
 simp [resultA,g74,tget_puts]
end
end Go.Am
end

section
namespace Go.Am
open Go Go.RowKit
theorem minI_nat (a c:Nat) :minI (.ofNat a) (.ofNat c) = .ofNat (min a c):=by
 unfold minI
 show (match Nat.blt c a with | true=>(Int.ofNat c) | false=>Int.ofNat a) = _
 by_cases h:c < a
 ·rw [blt_t h]
  simp only
  rw [Nat.min_eq_right (by omega)]
 ·rw [blt_f (by omega)]
  simp only
  rw [Nat.min_eq_left (by omega)]
theorem maxI_nat (a c:Nat) :maxI (.ofNat a) (.ofNat c) = .ofNat (max a c):=by
 unfold maxI
 show (match Nat.blt a c with | true=>(Int.ofNat c) | false=>Int.ofNat a) = _
 by_cases h:a < c
 ·rw [blt_t h]
  simp only
  rw [Nat.max_eq_right (by omega)]
 ·rw [blt_f (by omega)]
  simp only
  rw [Nat.max_eq_left (by omega)]
theorem reads_new2 {H:AHeap} {l:List AVal} {op ro:Bool} :Reads (H.nx.toNat + 1) (H.new (.cells l op ro)).2 (.sl H.nx 0 l.length l.length 0) l:=by
 refine .inr ⟨H.nx,0,l.length,0,rfl,?_,by omega,.inl rfl,Nat.le_refl _⟩
 unfold hloadN
 rw [get_new]
 simp only
 rw [lsub_of (by omega)]
 simp
theorem Line.scal {N:Nat} {H:AHeap} {v:AVal} {a:Nat} (h:Line N H v a) :isScal v = true:=by
 obtain ⟨n,cs,⟨_,⟨rfl,_⟩ | ⟨b,rfl,_⟩⟩,_⟩:=h <;> rfl
theorem Line.low {N:Nat} {H:AHeap} {v:AVal} {a:Nat} (h:Line N H v a) {b:Pos} (hb:rowBlk v = some b) :N≤b.toNat∧b.toNat < H.nx.toNat:=by
 obtain ⟨n,cs,g1,_⟩:=h
 exact ⟨(g1.blk hb).1,(g1.blk hb).2.1⟩
theorem Line.keepFr {N:Nat} {H H':AHeap} {v v':AVal} {a:Nat} (h:Line N H v a) (hN:N≤H.nx.toNat) (f:Fr v H v' H') :Keep N H H':=by
 obtain ⟨n,cs,g1,_⟩:=h
 exact g1.keepFr hN f
theorem fill2 {a b:Int} {t:PT AVal} {x y:AOpnd} (hx:x.ev t = .int .i64 a) (hy:y.ev t = .int .i64 b) :fillA [.int .i64 (.ofNat 0),.int .i64 (.ofNat 0)] t [(0,1,x),(1,1,y)] = some [.int .i64 a,.int .i64 b]:=by
 simp [fillA,hx,hy,vcellsO,lput,lover]
section
variable {E:Env}
theorem row2_ok (C:CodeOkC E) {N a i j:Nat} {H:AHeap} {v:AVal} {word:List Nat} (hL:Line N H v a) (hN:N≤H.nx.toNat) (hi:i < 100) (hj:j < 100) (hw:word.length≤8) (ha:a≤900000) :
  ∃ v' H',CallS E 74 [v,.str word,.sl H.nx 0 2 2 0] (H.new (.cells [.int .i64 (.ofNat i),.int .i64 (.ofNat j)] false false)).2 v' H'∧Line N H' v' (a + 15)∧Keep N H H':=by
 have k1:Keep H.nx.toNat H (H.new (.cells [.int .i64 (.ofNat i),.int .i64 (.ofNat j)] false false)).2:=keep_new
 have hn:(H.new (.cells [.int .i64 (.ofNat i),.int .i64 (.ofNat j)] false false)).2.nx.toNat = H.nx.toNat + 1:=nx_new
 have hr:Reads (H.nx.toNat + 1) (H.new (.cells [.int .i64 (.ofNat i),.int .i64 (.ofNat j)] false false)).2 (.sl H.nx 0 2 2 0) (intVals [.ofNat i,.ofNat j]):=reads_new2
 generalize (H.new (.cells [.int .i64 (.ofNat i),.int .i64 (.ofNat j)] false false)).2 = H1 at k1 hn hr ⊢
 obtain ⟨v',H',c,L,F⟩:=row_ok C (hL.keep k1 (Nat.le_refl _)) hr (by omega) (fun b o k c s e hb=>by
  cases e
  have:=(hL.low hb).2
  omega) (l:=[.ofNat i,.ofNat j]) (by simp) (fun z hz=>by
  simp only [List.mem_cons,List.not_mem_nil,or_false] at hz
  rcases hz with rfl | rfl
  ·exact ⟨i,hi,rfl⟩
  ·exact ⟨j,hj,rfl⟩) (by omega) hw ha
 exact ⟨v',H',c,L,(k1.mono hN).trans ((hL.keep k1 (Nat.le_refl _)).keepFr (by omega) F)⟩
theorem print_loop' (C:CodeOkC E) {M n:Nat} {H0:AHeap} {x:AVal} {ps:List Prr} (hx:PReads M H0 x ps) (hM:M≤H0.nx.toNat) (hn:n≤100) (hw:∀ t ∈ ps.map addT,Within n t) (hl:ps.length≤2000) {ro:Option Pos} :
  ∀ (q:Nat) (t:PT AVal) (H:AHeap),(∃ i v,i + q = ps.length∧tget t (Pos.ofNat 0) = .int .i64 (.ofNat n)∧tget t (Pos.ofNat 6) = v∧tget t (Pos.ofNat 18) = x∧tget t (Pos.ofNat 19) = .int .i64 (.ofNat ps.length)∧tget t (Pos.ofNat 20) = .int .i64 (.ofNat i)∧Line M H v (15 + 15 * i)∧Keep M H0 H) →
  W E (.loop g25l11) ro ⟨t,[]⟩ H (fun e a' H'=>e = .exit 0∧a'.ds = []∧∃ v,tget a'.t (Pos.ofNat 6) = v∧isScal v = true∧Keep M H0 H'):=by
 refine W.loop_inv (Q:=fun e a' H'=>e = .exit 0∧a'.ds = []∧∃ v,tget a'.t (Pos.ofNat 6) = v∧isScal v = true∧Keep M H0 H') _ ?_
 rintro q t H ⟨i,v,hi,h0,h6,h18,h19,h20,hL,hk⟩
 refine W.seq (W.region ?_)
 simp (maxDischargeDepth:=9) only [auW,auC,auT,lget,BEq.rfl,beq_self_eq_true,decide_true,decide_false,reduceCtorEq,Nat.reduceLT,Nat.reduceEqDiff,↓reduceIte,g25r5,h19,h20]
 refine W.seq (W.cond_if (p:=i < ps.length) (by simp [AOpnd.ev,tget_puts]) (fun hlt=>W.skip ?_) (fun hge=>W.exit ?_))
 rotate_left
 ·exact ⟨by trivial,by trivial,v,by simp only [tget_puts,Nat.reduceLT,Nat.reduceEqDiff,↓reduceIte,h6],hL.scal,hk⟩
 simp only [andThen]
 have hnn:=hk.nx
 obtain ⟨b,o,e1,e2,hbN⟩:=(hx.keep hk (Nat.le_refl _)).fIdx hlt
 refine W.seq (W.block (W.seq (W.region ?_)))
 obtain ⟨H1,s1,v1,k1,hnx1⟩:=var2 (H:=H) ps[i].1 ps[i].2
 simp (maxDischargeDepth:=9) only [auW,auC,auT,lget,BEq.rfl,beq_self_eq_true,decide_true,decide_false,reduceCtorEq,Nat.reduceLT,Nat.reduceEqDiff,↓reduceIte,g25r6,h18,h20,e1,fLoadN,e2]
 refine wo_store (b:=H.nx) (o:=0) (vs:=cell2 ps[i]) (by simp only [auT,Nat.reduceLT,Nat.reduceEqDiff,↓reduceIte]) (by simp only [auT,Nat.reduceLT,Nat.reduceEqDiff,↓reduceIte]; rfl) rfl s1 ?_
 simp (maxDischargeDepth:=9) only [auW,auC,auT,lget,BEq.rfl,beq_self_eq_true,decide_true,decide_false,reduceCtorEq,Nat.reduceLT,Nat.reduceEqDiff,↓reduceIte]
 simp only [andThen]
 have hwi:=hw (addT ps[i]) (List.mem_map.2 ⟨_,List.getElem_mem hlt,rfl⟩)
 obtain ⟨a,c,ha,hc,han,hcn⟩:=hwi.nat
 have ha:ps[i].1 = Int.ofNat a:=ha
 have hc:ps[i].2 = Int.ofNat c:=hc
 have l0:hload H1 H.nx (0 + 0) = some (.int .i64 (.ofNat a)):=by rw [hload_at v1 (by simp),← ha]; rfl
 have l1:hload H1 H.nx (0 + 1) = some (.int .i64 (.ofNat c)):=by rw [hload_at v1 (by simp),← hc]; rfl
 have hmx:¬ n≤max a c:=by omega
 have hn1:H1.nx.toNat = H.nx.toNat + 1:=by rw [hnx1,Pos.toNat_succ]
 refine W.seq (W.seq (W.region ?_))
 simp (maxDischargeDepth:=9) only [auW,auC,auT,lget,BEq.rfl,beq_self_eq_true,decide_true,decide_false,reduceCtorEq,Nat.reduceLT,Nat.reduceEqDiff,↓reduceIte,g25r7,h0,l0,l1,mm_min,mm_max,minI_nat,maxI_nat,Nat.not_lt_zero,hmx]
 simp only [andThen]
 refine W.cond_false (by simp [AOpnd.ev,tget_puts]) (W.skip ?_)
 simp only [andThen]
 obtain ⟨v2,H2,c2,L2,K2⟩:=row2_ok C (word:=[]) (i:=a) (j:=c) (hL.keep k1 (Nat.le_refl _)) (by omega) (by omega) (by omega) (by simp) (by omega)
 refine W.region ?_
 simp (maxDischargeDepth:=9) only [auW,auC,auT,lget,BEq.rfl,beq_self_eq_true,decide_true,decide_false,reduceCtorEq,Nat.reduceLT,Nat.reduceEqDiff,↓reduceIte,g25r9,h6,l0,l1]
 refine wo_buildSlice (fill2 (a:=.ofNat a) (b:=.ofNat c) (by simp [AOpnd.ev,tget_puts]) (by simp [AOpnd.ev,tget_puts])) ?_
 refine wo_callE (c2) (by simp only [auT,Nat.reduceLT,Nat.reduceEqDiff,↓reduceIte,h6]) ?_
 simp (maxDischargeDepth:=9) only [auW,auC,auT,lget,BEq.rfl,beq_self_eq_true,decide_true,decide_false,reduceCtorEq,Nat.reduceLT,Nat.reduceEqDiff,↓reduceIte]
 simp only [andThen,inBlock]
 refine W.region ?_
 simp (maxDischargeDepth:=9) only [auW,auC,auT,lget,BEq.rfl,beq_self_eq_true,decide_true,decide_false,reduceCtorEq,Nat.reduceLT,Nat.reduceEqDiff,↓reduceIte,g25r10,h20,b_add (show i + 1≤9223372036854775807 by omega)]
 refine ⟨by trivial,q - 1,by omega,i + 1,v2,by omega,?_,?_,?_,?_,?_,L2.mono (by omega),hk.trans ((k1.mono (by omega)).trans K2)⟩
 ·simp only [tget_puts,Nat.reduceLT,Nat.reduceEqDiff,↓reduceIte,h0]
 ·simp only [tget_puts,Nat.reduceLT,Nat.reduceEqDiff,↓reduceIte]
 ·simp only [tget_puts,Nat.reduceLT,Nat.reduceEqDiff,↓reduceIte,h18]
 ·simp only [tget_puts,Nat.reduceLT,Nat.reduceEqDiff,↓reduceIte,h19]
 ·simp only [tget_puts,Nat.reduceLT,Nat.reduceEqDiff,↓reduceIte]
theorem print_ok (C:CodeOkC E) {K n:Nat} {H:AHeap} {x:AVal} {ps:List Prr} (hx:PReads K H x ps) (hK:K≤H.nx.toNat) (hn:n < 100) (hw:∀ t ∈ ps.map addT,Within n t) (hl:ps.length≤2000) :
  ∃ v H',CallS E 25 [.int .i64 (.ofNat n),x] H (.tup [v,.int .i64 (.ofNat 0)]) H'∧isScal v = true∧Keep H.nx.toNat H H':=by
 suffices h:∃ w H',CallS E 25 [.int .i64 (.ofNat n),x] H w H'∧∃ v,w = .tup [v,.int .i64 (.ofNat 0)]∧isScal v = true∧Keep H.nx.toNat H H' by
  obtain ⟨w,H',h,v,rfl,h1,h2⟩:=h
  exact ⟨v,H',h,h1,h2⟩
 refine CallS.by (R:=fun w H'=>∃ v,w = .tup [v,.int .i64 (.ofNat 0)]∧isScal v = true∧Keep H.nx.toNat H H') (t0:=tput (tput .l (some (Pos.ofNat 0)) (.int .i64 (.ofNat n))) (some (Pos.ofNat 1)) x) (C.s _ rfl) rfl C.f25 rfl ?_
 refine W.seq (W.region ?_)
 simp (maxDischargeDepth:=9) only [auW,auC,auT,lget,BEq.rfl,beq_self_eq_true,decide_true,decide_false,reduceCtorEq,Nat.reduceLT,Nat.reduceEqDiff,↓reduceIte,g25r0]
 simp only [andThen]
 have hlt:¬ 16777216 < n:=by omega
 refine W.seq (W.seq (W.region ?_))
 simp (maxDischargeDepth:=9) only [auW,auC,auT,lget,BEq.rfl,beq_self_eq_true,decide_true,decide_false,reduceCtorEq,Nat.reduceLT,Nat.reduceEqDiff,↓reduceIte,g25r1,Nat.not_lt_zero,hlt]
 simp only [andThen]
 refine W.cond_false (by simp [AOpnd.ev,tget_puts]) (W.skip ?_)
 simp only [andThen]
 have k1:Keep H.nx.toNat H (H.new (.cells [.int .i64 (.ofNat n)] false false)).2:=keep_new
 have hr:Reads (H.nx.toNat + 1) (H.new (.cells [.int .i64 (.ofNat n)] false false)).2 (.sl H.nx 0 1 1 0) (intVals [.ofNat n]):=reads_new2
 have hn1:(H.new (.cells [.int .i64 (.ofNat n)] false false)).2.nx.toNat = H.nx.toNat + 1:=nx_new
 obtain ⟨v1,H1,c1,L1,F1⟩:=row_ok C (N:=(H.new (.cells [.int .i64 (.ofNat n)] false false)).2.nx.toNat) (a:=0) (v:=.snil) (word:=[118,101,114,116,105,99,101,115]) ⟨0,[],GN.nil,(fun _ h=>by cases h),Nat.le_refl _⟩ hr (by omega) (fun b o k c s _ hb=>by cases hb) (l:=[.ofNat n]) (by simp) (fun z hz=>by
  simp only [List.mem_singleton] at hz
  exact ⟨n,hn,hz⟩) (Nat.le_refl _) (by simp) (by omega)
 have hf1:=F1.nx
 have k2:Keep H.nx.toNat H H1:=k1.trans ⟨F1.nx,fun p hp=>F1.get p (by omega) (fun e=>by cases e)⟩
 refine W.seq (W.region ?_)
 simp (maxDischargeDepth:=9) only [auW,auC,auT,lget,BEq.rfl,beq_self_eq_true,decide_true,decide_false,reduceCtorEq,Nat.reduceLT,Nat.reduceEqDiff,↓reduceIte,g25r3]
 refine wo_buildSlice (fill1 (v:=.int .i64 (.ofNat n)) (by simp [AOpnd.ev,tget_puts]) rfl) ?_
 refine wo_callE (c1) (by simp only [auT,Nat.reduceLT,Nat.reduceEqDiff,↓reduceIte]) ?_
 simp (maxDischargeDepth:=9) only [auW,auC,auT,lget,BEq.rfl,beq_self_eq_true,decide_true,decide_false,reduceCtorEq,Nat.reduceLT,Nat.reduceEqDiff,↓reduceIte]
 simp only [andThen]
 have hx1:=hx.keep k2 hK
 have L1':Line H.nx.toNat H1 v1 15:=by
  obtain ⟨m,cs,⟨g1,g2⟩,h2,h3⟩:=L1
  refine ⟨m,cs,⟨g1,?_⟩,h2,by omega⟩
  rcases g2 with g2 | ⟨b,e1,e2,e3,e4⟩
  ·exact .inl g2
  ·exact .inr ⟨b,e1,e2,by omega,e4⟩
 refine W.seq (W.seq (W.region ?_))
 simp (maxDischargeDepth:=9) only [auW,auC,auT,lget,BEq.rfl,beq_self_eq_true,decide_true,decide_false,reduceCtorEq,Nat.reduceLT,Nat.reduceEqDiff,↓reduceIte,g25r4,hx1.fLen]
 simp only [andThen]
 have hxx:PReads H.nx.toNat H1 x ps:=hx1.mono hK
 refine W.block (W.mono (print_loop' C (M:=H.nx.toNat) (H0:=H1) hxx (by omega) (by omega) hw hl ps.length _ _ ⟨0,v1,by omega,?_,?_,?_,?_,?_,L1'.mono (by omega),Keep.refl _ _⟩) ?_)
 ·simp only [tget_puts,Nat.reduceLT,Nat.reduceEqDiff,↓reduceIte]
 ·simp only [tget_puts,Nat.reduceLT,Nat.reduceEqDiff,↓reduceIte]
 ·simp only [tget_puts,Nat.reduceLT,Nat.reduceEqDiff,↓reduceIte]
 ·simp only [tget_puts,Nat.reduceLT,Nat.reduceEqDiff,↓reduceIte]
 ·simp only [tget_puts,Nat.reduceLT,Nat.reduceEqDiff,↓reduceIte]
 rintro e ⟨t',ds⟩ H2 ⟨rfl,hd,v2,q6,hsc,hk⟩
 have hd:ds = []:=hd
 subst hd
 have q6:tget t' (Pos.ofNat 6) = v2:=q6
 simp only [andThen,inBlock,beq_t]
 refine W.seq (W.region ?_)
 simp (maxDischargeDepth:=9) only [auW,auC,auT,lget,BEq.rfl,beq_self_eq_true,decide_true,decide_false,reduceCtorEq,Nat.reduceLT,Nat.reduceEqDiff,↓reduceIte,g25r12,q6]
 refine W.ret ⟨.inr rfl,rfl,.tup [v2,.int .i64 (.ofNat 0)],?_,v2,rfl,hsc,k2.trans hk⟩
 simp [resultA,g25,tget_puts]
end
end Go.Am
end

section
namespace Go.Am
open Go Go.RowKit
section
variable {E:Env}
theorem printc_loop (C:CodeOkC E) {M n:Nat} {H0:AHeap} {x:AVal} {ts:List Trp} (hx:TReads M H0 x ts) (hM:M≤H0.nx.toNat) (hn:n≤100) (hw:∀ t ∈ ts,Within n t) (hl:ts.length≤2000) {ro:Option Pos} :
  ∀ (q:Nat) (t:PT AVal) (H:AHeap),(∃ i v,i + q = ts.length∧tget t (Pos.ofNat 4) = v∧tget t (Pos.ofNat 8) = x∧tget t (Pos.ofNat 9) = .int .i64 (.ofNat ts.length)∧tget t (Pos.ofNat 10) = .int .i64 (.ofNat i)∧Line M H v (15 * i)∧Keep M H0 H) →
  W E (.loop g26l12) ro ⟨t,[]⟩ H (fun e a' H'=>e = .exit 0∧a'.ds = []∧∃ v,tget a'.t (Pos.ofNat 4) = v∧isScal v = true∧Keep M H0 H'):=by
 refine W.loop_inv (Q:=fun e a' H'=>e = .exit 0∧a'.ds = []∧∃ v,tget a'.t (Pos.ofNat 4) = v∧isScal v = true∧Keep M H0 H') _ ?_
 rintro q t H ⟨i,v,hi,h4,h8,h9,h10,hL,hk⟩
 refine W.seq (W.region ?_)
 simp (maxDischargeDepth:=9) only [auW,auC,auT,lget,BEq.rfl,beq_self_eq_true,decide_true,decide_false,reduceCtorEq,Nat.reduceLT,Nat.reduceEqDiff,↓reduceIte,g26r3,h9,h10]
 refine W.seq (W.cond_if (p:=i < ts.length) (by simp [AOpnd.ev,tget_puts]) (fun hlt=>W.skip ?_) (fun hge=>W.exit ?_))
 rotate_left
 ·exact ⟨by trivial,by trivial,v,by simp only [tget_puts,Nat.reduceLT,Nat.reduceEqDiff,↓reduceIte,h4],hL.scal,hk⟩
 simp only [andThen]
 have hnn:=hk.nx
 obtain ⟨b,o,e1,e2,hbN⟩:=(hx.keep hk (Nat.le_refl _)).fIdx hlt
 refine W.seq (W.block (W.seq (W.region ?_)))
 obtain ⟨H1,s1,v1,hnx1⟩:=var3 (H:=H) ts[i]
 simp (maxDischargeDepth:=9) only [auW,auC,auT,lget,BEq.rfl,beq_self_eq_true,decide_true,decide_false,reduceCtorEq,Nat.reduceLT,Nat.reduceEqDiff,↓reduceIte,g26r4,h8,h10,e1,fLoadN,e2]
 refine wo_store (b:=H.nx) (o:=0) (vs:=cell3 ts[i]) (by simp only [auT,Nat.reduceLT,Nat.reduceEqDiff,↓reduceIte]) (by simp only [auT,Nat.reduceLT,Nat.reduceEqDiff,↓reduceIte]; rfl) rfl s1 ?_
 simp (maxDischargeDepth:=9) only [auW,auC,auT,lget,BEq.rfl,beq_self_eq_true,decide_true,decide_false,reduceCtorEq,Nat.reduceLT,Nat.reduceEqDiff,↓reduceIte]
 simp only [andThen]
 obtain ⟨a,c,ha,hc,han,hcn⟩:=(hw ts[i] (List.getElem_mem hlt)).nat
 have l0:=v1.l0
 have l1:=v1.l1
 have l2:=v1.l2
 rw [ha] at l0
 rw [hc] at l1
 have k1:=v1.keep
 have hmx:¬ 2147483647 < max a c:=by omega
 have hn1:H1.nx.toNat = H.nx.toNat + 1:=by rw [hnx1,Pos.toNat_succ]
 refine W.seq (W.seq (W.region ?_))
 simp (maxDischargeDepth:=9) only [auW,auC,auT,lget,BEq.rfl,beq_self_eq_true,decide_true,decide_false,reduceCtorEq,Nat.reduceLT,Nat.reduceEqDiff,↓reduceIte,g26r5,l0,l1,mm_min,mm_max,minI_nat,maxI_nat,Nat.not_lt_zero,hmx]
 simp only [andThen]
 refine W.cond_false (by simp [AOpnd.ev,tget_puts]) (W.skip ?_)
 simp only [andThen]
 refine W.seq (W.region ?_)
 simp (maxDischargeDepth:=9) only [auW,auC,auT,lget,BEq.rfl,beq_self_eq_true,decide_true,decide_false,reduceCtorEq,Nat.reduceLT,Nat.reduceEqDiff,↓reduceIte,g26r7]
 simp only [andThen]
 refine W.seq (W.seq (W.region ?_))
 simp (maxDischargeDepth:=9) only [auW,auC,auT,lget,BEq.rfl,beq_self_eq_true,decide_true,decide_false,reduceCtorEq,Nat.reduceLT,Nat.reduceEqDiff,↓reduceIte,g26r8,l2]
 simp only [andThen]
 have fin:∀ (t':PT AVal) (word:List Nat),word.length≤8→tget t' (Pos.ofNat 7) = .str word→tget t' (Pos.ofNat 6) = .ptr H.nx 0→Pres [4,8,9,10] t t' →
   W E (.region g26r10) ro ⟨t',[]⟩ H1 (inBlock 1 (andThen (fun a'' H''=>W E (.region g26r11) ro a'' H'' (loopPost [] (fun q t H=>∃ i v,i + q = ts.length∧tget t (Pos.ofNat 4) = v∧tget t (Pos.ofNat 8) = x∧tget t (Pos.ofNat 9) = .int .i64 (.ofNat ts.length)∧tget t (Pos.ofNat 10) = .int .i64 (.ofNat i)∧Line M H v (15 * i)∧Keep M H0 H) (fun e a' H'=>e = .exit 0∧a'.ds = []∧∃ v,tget a'.t (Pos.ofNat 4) = v∧isScal v = true∧Keep M H0 H') q)) (loopPost [] (fun q t H=>∃ i v,i + q = ts.length∧tget t (Pos.ofNat 4) = v∧tget t (Pos.ofNat 8) = x∧tget t (Pos.ofNat 9) = .int .i64 (.ofNat ts.length)∧tget t (Pos.ofNat 10) = .int .i64 (.ofNat i)∧Line M H v (15 * i)∧Keep M H0 H) (fun e a' H'=>e = .exit 0∧a'.ds = []∧∃ v,tget a'.t (Pos.ofNat 4) = v∧isScal v = true∧Keep M H0 H') q))):=by
  intro t' word hwl p7 p6 hp
  have p4:=(hp 4 (by simp)).trans h4
  have p8:=(hp 8 (by simp)).trans h8
  have p9:=(hp 9 (by simp)).trans h9
  have p10:=(hp 10 (by simp)).trans h10
  obtain ⟨v2,H2,c2,L2,K2⟩:=row2_ok C (word:=word) (i:=a) (j:=c) (hL.keep k1 (Nat.le_refl _)) (by omega) (by omega) (by omega) hwl (by omega)
  refine W.region ?_
  simp (maxDischargeDepth:=9) only [auW,auC,auT,lget,BEq.rfl,beq_self_eq_true,decide_true,decide_false,reduceCtorEq,Nat.reduceLT,Nat.reduceEqDiff,↓reduceIte,g26r10,p4,p6,p7,l0,l1]
  refine wo_buildSlice (fill2 (a:=.ofNat a) (b:=.ofNat c) (by simp [AOpnd.ev,tget_puts]) (by simp [AOpnd.ev,tget_puts])) ?_
  refine wo_callE (c2) (by simp only [auT,Nat.reduceLT,Nat.reduceEqDiff,↓reduceIte]) ?_
  simp (maxDischargeDepth:=9) only [auW,auC,auT,lget,BEq.rfl,beq_self_eq_true,decide_true,decide_false,reduceCtorEq,Nat.reduceLT,Nat.reduceEqDiff,↓reduceIte]
  simp only [andThen,inBlock]
  refine W.region ?_
  simp (maxDischargeDepth:=9) only [auW,auC,auT,lget,BEq.rfl,beq_self_eq_true,decide_true,decide_false,reduceCtorEq,Nat.reduceLT,Nat.reduceEqDiff,↓reduceIte,g26r11,p10,b_add (show i + 1≤9223372036854775807 by omega)]
  refine ⟨by trivial,q - 1,by omega,i + 1,v2,by omega,?_,?_,?_,?_,L2.mono (by omega),hk.trans ((k1.mono (by omega)).trans K2)⟩
  ·simp only [tget_puts,Nat.reduceLT,Nat.reduceEqDiff,↓reduceIte]
  ·simp only [tget_puts,Nat.reduceLT,Nat.reduceEqDiff,↓reduceIte,p8]
  ·simp only [tget_puts,Nat.reduceLT,Nat.reduceEqDiff,↓reduceIte,p9]
  ·simp only [tget_puts,Nat.reduceLT,Nat.reduceEqDiff,↓reduceIte]
 cases hg:ts[i].2.2 with
 | true =>
  refine W.cond_true (by simp [AOpnd.ev,tget_puts,hg]) (W.region ?_)
  simp (maxDischargeDepth:=9) only [auW,auC,auT,lget,BEq.rfl,beq_self_eq_true,decide_true,decide_false,reduceCtorEq,Nat.reduceLT,Nat.reduceEqDiff,↓reduceIte,g26r9]
  simp only [andThen]
  refine fin _ [45] (by simp) (by simp only [tget_puts,Nat.reduceLT,Nat.reduceEqDiff,↓reduceIte]) (by simp only [tget_puts,Nat.reduceLT,Nat.reduceEqDiff,↓reduceIte]) ?_
  try dsimp only
  repeat (first | refine Pres.put ?_ (by decide) (by decide) | exact Pres.refl _ _)
 | false =>
  refine W.cond_false (by simp [AOpnd.ev,tget_puts,hg]) (W.skip ?_)
  simp only [andThen]
  refine fin _ [43] (by simp) (by simp only [tget_puts,Nat.reduceLT,Nat.reduceEqDiff,↓reduceIte]) (by simp only [tget_puts,Nat.reduceLT,Nat.reduceEqDiff,↓reduceIte]) ?_
  try dsimp only
  repeat (first | refine Pres.put ?_ (by decide) (by decide) | exact Pres.refl _ _)
theorem printc_ok (C:CodeOkC E) {K n:Nat} {H:AHeap} {x:AVal} {ts:List Trp} (hx:TReads K H x ts) (hK:K≤H.nx.toNat) (hn:n≤100) (hw:∀ t ∈ ts,Within n t) (hl:ts.length≤2000) :
  ∃ v H',CallS E 26 [x] H (.tup [v,.int .i64 (.ofNat 0)]) H'∧isScal v = true∧Keep H.nx.toNat H H':=by
 suffices h:∃ w H',CallS E 26 [x] H w H'∧∃ v,w = .tup [v,.int .i64 (.ofNat 0)]∧isScal v = true∧Keep H.nx.toNat H H' by
  obtain ⟨w,H',h,v,rfl,h1,h2⟩:=h
  exact ⟨v,H',h,h1,h2⟩
 refine CallS.by (R:=fun w H'=>∃ v,w = .tup [v,.int .i64 (.ofNat 0)]∧isScal v = true∧Keep H.nx.toNat H H') (t0:=tput .l (some (Pos.ofNat 0)) x) (C.s _ rfl) rfl C.f26 rfl ?_
 refine W.seq (W.region ?_)
 simp (maxDischargeDepth:=9) only [auW,auC,auT,lget,BEq.rfl,beq_self_eq_true,decide_true,decide_false,reduceCtorEq,Nat.reduceLT,Nat.reduceEqDiff,↓reduceIte,g26r0]
 simp only [andThen]
 refine W.seq (W.region ?_)
 simp (maxDischargeDepth:=9) only [auW,auC,auT,lget,BEq.rfl,beq_self_eq_true,decide_true,decide_false,reduceCtorEq,Nat.reduceLT,Nat.reduceEqDiff,↓reduceIte,g26r1]
 simp only [andThen]
 refine W.seq (W.seq (W.region ?_))
 simp (maxDischargeDepth:=9) only [auW,auC,auT,lget,BEq.rfl,beq_self_eq_true,decide_true,decide_false,reduceCtorEq,Nat.reduceLT,Nat.reduceEqDiff,↓reduceIte,g26r2,hx.fLen]
 simp only [andThen]
 refine W.block (W.mono (printc_loop C (M:=H.nx.toNat) (H0:=H) (hx.mono hK) (Nat.le_refl _) hn hw hl ts.length _ _ ⟨0,.snil,by omega,?_,?_,?_,?_,⟨0,[],GN.nil,(fun _ h=>by cases h),Nat.le_refl _⟩,Keep.refl _ _⟩) ?_)
 ·simp only [tget_puts,Nat.reduceLT,Nat.reduceEqDiff,↓reduceIte]
 ·simp only [tget_puts,Nat.reduceLT,Nat.reduceEqDiff,↓reduceIte]
 ·simp only [tget_puts,Nat.reduceLT,Nat.reduceEqDiff,↓reduceIte]
 ·simp only [tget_puts,Nat.reduceLT,Nat.reduceEqDiff,↓reduceIte]
 rintro e ⟨t',ds⟩ H2 ⟨rfl,hd,v2,q4,hsc,hk⟩
 have hd:ds = []:=hd
 subst hd
 have q4:tget t' (Pos.ofNat 4) = v2:=q4
 simp only [andThen,inBlock,beq_t]
 refine W.seq (W.region ?_)
 simp (maxDischargeDepth:=9) only [auW,auC,auT,lget,BEq.rfl,beq_self_eq_true,decide_true,decide_false,reduceCtorEq,Nat.reduceLT,Nat.reduceEqDiff,↓reduceIte,g26r13,q4]
 refine W.ret ⟨.inr rfl,rfl,.tup [v2,.int .i64 (.ofNat 0)],?_,v2,rfl,hsc,hk⟩
 simp [resultA,g26,tget_puts]
end
end Go.Am
end
