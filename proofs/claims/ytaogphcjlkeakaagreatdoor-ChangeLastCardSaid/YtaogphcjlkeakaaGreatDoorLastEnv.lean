/- Part of the proof: AmLastEnv, AmR3. -/
import Derived.Test.YtaogphcjlkeakaaGreatDoorFn6
import Derived.Test.YtaogphcjlkeakaaGreatDoorFn2
import Derived.Test.YtaogphcjlkeakaaGreatDoorNet3
import Derived.Test.YtaogphcjlkeakaaGreatDoorAm26
import Derived.Test.YtaogphcjlkeakaaGreatDoorGr1
import Derived.Deep.Strs
set_option linter.unusedSimpArgs false
set_option linter.unusedVariables false
section
namespace Go.Am
open Go Go.Proofs Go.RowKit
set_option maxRecDepth 100000
theorem sO78 (B:Nat) :SumOk Tryz.prog theTys B 78 sSortO:=sumOk_sortO Tryz.func78 (by kernel_rfl) rfl (fun blk off cap zs w h1 h2 h3=>AnyM.slices_Sort_int Tryz.sortInt blk off cap zs w h1 h2 h3) (fun p cap w=>AnyM.slices_Sort_int_none Tryz.sortInt p cap w)
noncomputable def ofSums:List (Nat × (List AVal→AHeap→ARes)):=[(78,sSortO)]
noncomputable def ofEnv:Env:=⟨.l,putAll ofSums .l,putAll ([] :List (Nat × (List AVal→AHeap→Option AHeap))) .l⟩
theorem ofEnv_ok (B:Nat) :EnvOk Tryz.prog theTys B ofEnv:=EnvOk.of_lists (fs:=[]) (fun _ h=>by cases h) (fun p hp=>by
 simp only [ofSums,List.mem_cons,List.not_mem_nil,or_false] at hp
 obtain rfl:=hp
 exact ⟨by show (78:Nat) < _; decide,sO78 B⟩) (fun _ h=>by cases h)
theorem of78:PT.get (Pos.ofNat 78) ofEnv.sums = some sSortO:=PT.get_set_same _ _ _
theorem ofRet {B n:Nat} {m:Pos} {φ:Emb} {H:AHeap} {w:World} {args':Array Value} {es:List Trp} (hH:HRel theTys B φ H w) (hl:LRel φ [.int .i64 (.ofNat n),.map m] args'.toList) (hmH:PT.get m H.t = some (.map (es.map entT))) (hes:Edges n es) (hn:n≤100000) (hel:es.length≤1000000) :
  Returns Tryz.prog theTys B φ H w 36 args' (layGraph H m n (rowsZ n es)).1 (layGraph H m n (rowsZ n es)).2 :=
 of_calls theTys_ok ofEnv_ok mixed_ok of78 Tryz.func36 (by kernel_rfl) (hb:=rfl) rfl (by kernel_rfl) (by kernel_rfl) (by kernel_rfl) (by kernel_rfl) (by kernel_rfl) (by kernel_rfl) (by kernel_rfl) rfl (by kernel_rfl) rfl rfl rfl Tryz.underlying78 rfl rfl rfl rfl rfl rfl rfl rfl rfl hH hl hmH hes hn hel
theorem hof {H:AHeap} {m:Pos} {n:Nat} {es:List Trp} (hmH:PT.get m H.t = some (.map (es.map entT))) (hes:Edges n es) (hn:n≤100000) (hel:es.length≤1000000) :sOr Tryz.prog theTys 36 gOf [.int .i64 (.ofNat n),.map m] H = some (layGraph H m n (rowsZ n es)):=by
 rw [or_ok (fun B φ w args' hH hl=>by rw [gOf_eq hmH]; exact .inl (ofRet hH hl hmH hes hn hel)),gOf_eq hmH]
noncomputable def chFns:List (Nat × Func):=[34,35].map fnAt
noncomputable def chT0:PT AFun:=putFns theTys chFns .l
noncomputable def chSums:List (Nat × (List AVal→AHeap→ARes)):=[(36,sOr Tryz.prog theTys 36 gOf)]
noncomputable def chEnv:Env:=⟨chT0,putAll chSums .l,putAll ([] :List (Nat × (List AVal→AHeap→Option AHeap))) .l⟩
theorem chEnv_ok (B:Nat) :EnvOk Tryz.prog theTys B chEnv:=EnvOk.of_lists (fs:=chFns) (fnsAt_ok (inIdxs (l:=[34,35]) (by kernel_rfl))) (fun p hp=>by
 simp only [chSums,List.mem_cons,List.not_mem_nil,or_false] at hp
 obtain rfl:=hp
 exact ⟨by show (36:Nat) < _; decide,sumOk_or⟩) (fun _ h=>by cases h)
theorem ch36:PT.get (Pos.ofNat 36) chEnv.sums = some (sOr Tryz.prog theTys 36 gOf):=PT.get_set_same _ _ _
theorem ch_none {p:Pos} (h:Pos.ofNat 36 ≠ p) :PT.get p chEnv.sums = none:=by
 show PT.get p (putAll chSums .l) = none
 simp only [chSums,putAll]
 rw [PT.get_set_other _ _ _ _ h]
 exact get_nil p
theorem ch34:PT.get (Pos.ofNat 34) chT0 = some g34:=by kernel_rfl
theorem ch35:PT.get (Pos.ofNat 35) chT0 = some g35:=by kernel_rfl
theorem chRet {B N n K:Nat} {g:Pos} {x:AVal} {φ:Emb} {H:AHeap} {w:World} {args':Array Value} {es ts:List Trp} (hH:HRel theTys B φ H w) (hl:LRel φ [.ptr g 0,x] args'.toList) (hG:GraphH N H (.ptr g 0) n es) (hx:TReads K H x ts) (hw:∀ t ∈ ts,Within n t) (hn:n≤1000) (hel:es.length≤100000) (htl:ts.length≤100000) :
  Returns Tryz.prog theTys B φ H w 11 args' (.tup [(chR H n es ts).1,.int .i64 0]) (chR H n es ts).2 :=
 ch_calls (qs:=[_,_,_,_]) theTys_ok chEnv_ok mixed_ok (ch_none (pos_ne (by decide) (by decide) (by decide))) ch34 (ch_none (pos_ne (by decide) (by decide) (by decide))) ch35 ch36 hof Tryz.func11 (by kernel_rfl) (hb:=rfl) rfl (by kernel_rfl) (by kernel_rfl) (by kernel_rfl) (by kernel_rfl) (by kernel_rfl) (by kernel_rfl) rfl (by kernel_rfl) rfl (by kernel_rfl) rfl rfl rfl Tryz.underlying78 rfl rfl rfl rfl rfl rfl rfl rfl rfl hH hl hG hx hw hn hel htl
theorem hch {N n K:Nat} {g:Pos} {x:AVal} {H:AHeap} {es ts:List Trp} (hG:GraphH N H (.ptr g 0) n es) (hx:TReads K H x ts) (hw:∀ t ∈ ts,Within n t) (hn:n≤1000) (hel:es.length≤100000) (htl:ts.length≤100000) :sOr Tryz.prog theTys 11 gCh [.ptr g 0,x] H = some (.tup [(chR H n es ts).1,.int .i64 0],(chR H n es ts).2):=by
 rw [or_ok (fun B φ w args' hH hl=>by rw [gCh_eq hG hx]; exact .inl (chRet hH hl hG hx hw hn hel htl)),gCh_eq hG hx]
noncomputable def lawFns:List (Nat × Func):=[8,6,10,33,81,3,5,12,13,14,23,24,25,26,9,35,37,38,39,40,74,138,196,273,34,265].map fnAt
noncomputable def lawT:PT AFun:=putFns theTys lawFns .l
noncomputable def lawSums (B:Nat) :List (Nat × (List AVal→AHeap→ARes)):=[(36,sOr Tryz.prog theTys 36 gOf),(11,sOr Tryz.prog theTys 11 gCh),(32,sMerge),(7,sNet),(4,sOracle Tryz.prog theTys B 4 (fun _=>.bool true))]
noncomputable def lawEnv (B:Nat) :Env:=⟨lawT,putAll (lawSums B) .l,putAll ([] :List (Nat × (List AVal→AHeap→Option AHeap))) .l⟩
theorem lawFns_ok:∀ p ∈ lawFns,FnOk p:=fnsAt_ok (inIdxs (by kernel_rfl))
theorem lawEnv_ok (B:Nat) :EnvOk Tryz.prog theTys B (lawEnv B):=EnvOk.of_lists lawFns_ok (fun p hp=>by
 simp only [lawSums,List.mem_cons,List.not_mem_nil,or_false] at hp
 rcases hp with rfl | rfl | rfl | rfl | rfl
 ·exact ⟨by show (36:Nat) < _; decide,sumOk_or⟩
 ·exact ⟨by show (11:Nat) < _; decide,sumOk_or⟩
 ·exact ⟨by show (32:Nat) < _; decide,sum32 B⟩
 ·exact ⟨by show (7:Nat) < _; decide,sum7 B⟩
 ·exact ⟨by show (4:Nat) < _; decide,sumOk_oracle _ _ _ _ _⟩) (fun _ h=>by cases h)
theorem code8:PT.get (Pos.ofNat 8) lawT = some g8:=by kernel_rfl
theorem code6:PT.get (Pos.ofNat 6) lawT = some g6:=by kernel_rfl
theorem code10:PT.get (Pos.ofNat 10) lawT = some g10:=by kernel_rfl
theorem code33:PT.get (Pos.ofNat 33) lawT = some g33:=by kernel_rfl
theorem code81:PT.get (Pos.ofNat 81) lawT = some g81:=by kernel_rfl
theorem code3:PT.get (Pos.ofNat 3) lawT = some g3:=by kernel_rfl
theorem code5:PT.get (Pos.ofNat 5) lawT = some g5:=by kernel_rfl
theorem code12:PT.get (Pos.ofNat 12) lawT = some g12:=by kernel_rfl
theorem code13:PT.get (Pos.ofNat 13) lawT = some g13:=by kernel_rfl
theorem code14:PT.get (Pos.ofNat 14) lawT = some g14:=by kernel_rfl
theorem code23:PT.get (Pos.ofNat 23) lawT = some g23:=by kernel_rfl
theorem code24:PT.get (Pos.ofNat 24) lawT = some g24:=by kernel_rfl
theorem code25:PT.get (Pos.ofNat 25) lawT = some g25:=by kernel_rfl
theorem code26:PT.get (Pos.ofNat 26) lawT = some g26:=by kernel_rfl
theorem code9:PT.get (Pos.ofNat 9) lawT = some g9:=by kernel_rfl
theorem code35:PT.get (Pos.ofNat 35) lawT = some g35:=by kernel_rfl
theorem code37:PT.get (Pos.ofNat 37) lawT = some g37:=by kernel_rfl
theorem code38:PT.get (Pos.ofNat 38) lawT = some g38:=by kernel_rfl
theorem code39:PT.get (Pos.ofNat 39) lawT = some g39:=by kernel_rfl
theorem code40:PT.get (Pos.ofNat 40) lawT = some g40:=by kernel_rfl
theorem code74:PT.get (Pos.ofNat 74) lawT = some g74:=by kernel_rfl
theorem code138:PT.get (Pos.ofNat 138) lawT = some g138:=by kernel_rfl
theorem code196:PT.get (Pos.ofNat 196) lawT = some g196:=by kernel_rfl
theorem code273:PT.get (Pos.ofNat 273) lawT = some g273:=by kernel_rfl
theorem code34:PT.get (Pos.ofNat 34) lawT = some g34:=by kernel_rfl
theorem code265:PT.get (Pos.ofNat 265) lawT = some g265:=by kernel_rfl
theorem lawEnv_sums (B:Nat) (p:Pos) (h:(Pos.beq p (Pos.ofNat 4) || (Pos.beq p (Pos.ofNat 7) || (Pos.beq p (Pos.ofNat 32) || (Pos.beq p (Pos.ofNat 11) || Pos.beq p (Pos.ofNat 36))))) = false) :PT.get p (lawEnv B).sums = none:=by
 simp only [Bool.or_eq_false_iff] at h
 obtain ⟨h1,h2,h3,h4,h5⟩:=h
 have ne:∀ q,Pos.beq p q = false→q ≠ p:=fun q hq e=>by subst e; rw [Pos.beq_eq.2 rfl] at hq; cases hq
 show PT.get p (putAll (lawSums B) .l) = none
 simp only [lawSums,putAll]
 rw [PT.get_set_other _ _ _ _ (ne _ h1),PT.get_set_other _ _ _ _ (ne _ h2),PT.get_set_other _ _ _ _ (ne _ h3),PT.get_set_other _ _ _ _ (ne _ h4),PT.get_set_other _ _ _ _ (ne _ h5)]
 exact get_nil p
theorem law36 (B:Nat) :PT.get (Pos.ofNat 36) (lawEnv B).sums = some (sOr Tryz.prog theTys 36 gOf):=by
 show PT.get _ (putAll (lawSums B) .l) = _
 simp only [lawSums,putAll]
 rw [PT.get_set_other _ _ _ _ (pos_ne (by decide) (by decide) (by decide)),PT.get_set_other _ _ _ _ (pos_ne (by decide) (by decide) (by decide)),PT.get_set_other _ _ _ _ (pos_ne (by decide) (by decide) (by decide)),PT.get_set_other _ _ _ _ (pos_ne (by decide) (by decide) (by decide))]
 exact PT.get_set_same _ _ _
theorem law11 (B:Nat) :PT.get (Pos.ofNat 11) (lawEnv B).sums = some (sOr Tryz.prog theTys 11 gCh):=by
 show PT.get _ (putAll (lawSums B) .l) = _
 simp only [lawSums,putAll]
 rw [PT.get_set_other _ _ _ _ (pos_ne (by decide) (by decide) (by decide)),PT.get_set_other _ _ _ _ (pos_ne (by decide) (by decide) (by decide)),PT.get_set_other _ _ _ _ (pos_ne (by decide) (by decide) (by decide))]
 exact PT.get_set_same _ _ _
theorem law32 (B:Nat) :PT.get (Pos.ofNat 32) (lawEnv B).sums = some (sMerge):=by
 show PT.get _ (putAll (lawSums B) .l) = _
 simp only [lawSums,putAll]
 rw [PT.get_set_other _ _ _ _ (pos_ne (by decide) (by decide) (by decide)),PT.get_set_other _ _ _ _ (pos_ne (by decide) (by decide) (by decide))]
 exact PT.get_set_same _ _ _
theorem law7 (B:Nat) :PT.get (Pos.ofNat 7) (lawEnv B).sums = some (sNet):=by
 show PT.get _ (putAll (lawSums B) .l) = _
 simp only [lawSums,putAll]
 rw [PT.get_set_other _ _ _ _ (pos_ne (by decide) (by decide) (by decide))]
 exact PT.get_set_same _ _ _
theorem law4 (B:Nat) :PT.get (Pos.ofNat 4) (lawEnv B).sums = some (sOracle Tryz.prog theTys B 4 (fun _=>.bool true)):=by
 show PT.get _ (putAll (lawSums B) .l) = _
 simp only [lawSums,putAll]
 exact PT.get_set_same _ _ _
theorem codeOk (B:Nat) :CodeOkC (lawEnv B):={ s:=lawEnv_sums B,s7:=law7 B,s28:=law32 B,f8:=code8,f6:=code6,f10:=code10,f33:=code33,f81:=code81,f3:=code3,f5:=code5,f12:=code12,f13:=code13,f14:=code14,f23:=code23,f24:=code24,f25:=code25,f26:=code26,f9:=code9,f35:=code35,f37:=code37,f38:=code38,f39:=code39,f40:=code40,f74:=code74,f138:=code138,f196:=code196,f273:=code273,f34:=code34,f265:=code265 }
theorem graphOk (B:Nat) :GrC (lawEnv B):={
 of:=fun h1 h2 h3 h4=>CallS.sum (by decide) (law36 B) (hof h1 h2 h3 h4)
 ch:=fun {N K n H v x es ts} hG hx hw hn hel htl=>by
  obtain ⟨g,_,_,rfl,_⟩:=hG.fields
  exact ⟨_,_,CallS.sum (by decide) (law11 B) (hch hG hx hw hn hel htl),chR_at hG hw⟩ }
theorem first_call {B:Nat} {H:AHeap} (h:∀ φ w (args':Array Value),HRel theTys B φ H w→LRel φ [] args'.toList→CallOk Tryz.prog theTys B φ H w 4 args' (.bool true) H) :CallS (lawEnv B) 4 [] H (.bool true) H:=by
 refine ⟨0,fun n _=>?_⟩
 unfold callA
 rw [law4 B]
 exact oracle_ok h
end Go.Am
end

section
namespace Go.Am
open Go Go.RowKit Go.ChangeShapes Go.WideShapes
section
variable {Hh:Type} {enc:TypeId × Value→Hh} {P:Program} {W:World} {held:Bool}
theorem absH_sliceK {k:Nat} (hk:0 < k) {a:Addr} {len cap:Nat} {l:List AVal} (hl:l.length = len * k) (hlc:len≤cap) (h0:∃ arr e fz,W.heap[0]? = some (.cells arr e fz)) (hcell:∀ i,i < cap * k→∃ v,W.cell? (a.add i) = some v) (hval:∀ i (hi:i < l.length),∃ v,W.cell? (a.add i) = some v∧absV W.heap.size v = l[i]) :
  ∃ b o cap',absS W.heap.size a len cap = .sl b o len cap' 0∧hloadN (absH W) b o (len * k) = some l∧b.toNat < (absH W).nx.toNat∧len≤cap':=by
 rw [← hl]
 by_cases hc:cap = 0
 ·subst hc
  obtain ⟨arr,e,fz,h0⟩:=h0
  have hl0:len = 0:=by omega
  subst hl0
  rw [Nat.zero_mul] at hl
  have hl0:l = []:=List.length_eq_zero_iff.1 (by omega)
  subst hl0
  have hlt:=(Array.getElem?_eq_some_iff.1 h0).1
  refine ⟨posOf 0,0,0,?_,?_,?_,Nat.le_refl _⟩
  ·unfold absS
   rw [if_pos rfl,if_pos ⟨rfl,by omega⟩]
  ·exact absH_row h0 (fun i hi=>by simp at hi) (by simp)
  ·rw [absH_nx,toNat_posOf]; omega
 ·have hle:len * k≤cap * k:=Nat.mul_le_mul_right k hlc
  have hpos:0 < cap * k:=Nat.mul_pos (by omega) hk
  obtain ⟨v0,hv0⟩:=hcell 0 (by omega)
  obtain ⟨b,off,spot⟩:=a
  have hspot:spot = none:=by simpa [Addr.add] using World.cell?_spot hv0
  subst hspot
  obtain ⟨arr,e,fz,hcb⟩ :∃ arr e fz,W.heap[b]? = some (.cells arr e fz):=by
   rw [add_plain] at hv0
   unfold World.cell? at hv0
   split at hv0
   ·rename_i c e' f' hb; exact ⟨c,e',f',hb⟩
   ·cases hv0
  have hlt:=(Array.getElem?_eq_some_iff.1 hcb).1
  have ck:∀ j v,W.cell? (Addr.add ⟨b,off,none⟩ j) = some v→arr[off + j]? = some v:=by
   intro j v hj
   rw [add_plain] at hj
   unfold World.cell? at hj
   simpa [hcb] using hj
  refine ⟨posOf b,off,cap,?_,?_,by rw [absH_nx,toNat_posOf]; omega,by omega⟩
  ·unfold absS
   rw [if_neg hc,if_pos ⟨rfl,hlt,hlc⟩]
  ·refine absH_row hcb (fun i hi=>?_) ?_
   ·obtain ⟨v,h1,h2⟩:=hval i hi
    exact ⟨v,ck i v h1,h2⟩
   ·by_cases hl0:l.length = 0
    ·obtain ⟨v,hv⟩:=hcell 0 (by omega)
     have:=(Array.getElem?_eq_some_iff.1 (ck 0 v hv)).1
     omega
    ·obtain ⟨v,hv⟩:=hcell (l.length - 1) (by omega)
     have:=(Array.getElem?_eq_some_iff.1 (ck _ v hv)).1
     omega
theorem addr_add3 (a:Addr) (i j:Nat) :(a.add i).add j = a.add (i + j):=by
 by_cases hi:i = 0 <;> by_cases hj:j = 0 <;> simp [Addr.add,hi,hj,Nat.add_assoc]
theorem change_cells {e:TypeId} {f0 f1 f2:Field} {n:Nat} {cs:List Value} {y:DataW Hh × List MemPlace} (he:P.underlying e = some (.struct #[f0,f1,f2])) (hc:P.cellsOf e = 3) (o0:f0.offset = 0) (o1:f1.offset = 1) (o2:f2.offset = 2) (t0:P.underlying f0.type = some (.int .i64)) (t1:P.underlying f1.type = some (.int .i64)) (t2:P.underlying f2.type = some .bool)
  (c0:P.cellsOf f0.type = 1) (c1:P.cellsOf f1.type = 1) (c2:P.cellsOf f2.type = 1) (h:DataW.trod enc P W 0 (fun _=>true) held n e cs = some y) :∃ u v g,cs = [.int .i64 u,.int .i64 v,.bool g]:=by
 obtain ⟨y0,y1,y2,m,rfl,hl,g0,g1,g2⟩:=Go.Deep.trod_struct3 he h
 rw [hc] at hl
 match cs,hl with
 | [v0,v1,v2],_ =>
  simp [o0,o1,o2,c0,c1,c2] at g0 g1 g2
  obtain ⟨u,e0,_⟩:=DataW.trod_int t0 g0
  obtain ⟨v,e1,_⟩:=DataW.trod_int t1 g1
  obtain ⟨g,e2,_⟩:=DataW.trod_bool t2 g2
  simp at e0 e1 e2
  exact ⟨u,v,g,by rw [e0,e1,e2]⟩
theorem reads_trips {t e:TypeId} {f0 f1 f2:Field} {fuel:Nat} {v:Value} {x:DataW Hh × List MemPlace} (ht:P.underlying t = some (.slice e)) (he:P.underlying e = some (.struct #[f0,f1,f2])) (hc:P.cellsOf e = 3) (o0:f0.offset = 0) (o1:f1.offset = 1) (o2:f2.offset = 2) (t0:P.underlying f0.type = some (.int .i64)) (t1:P.underlying f1.type = some (.int .i64)) (t2:P.underlying f2.type = some .bool)
  (c0:P.cellsOf f0.type = 1) (c1:P.cellsOf f1.type = 1) (c2:P.cellsOf f2.type = 1) (h0:∃ arr e fz,W.heap[0]? = some (.cells arr e fz))
  (h:DataW.trod enc P W 0 (fun _=>true) held fuel t [v] = some x) :∃ ts:List Trp,TReads (absH W).nx.toNat (absH W) (absV W.heap.size v) ts:=by
 rcases DataW.trod_slice ht h with ⟨hcs,hx⟩ | ⟨a,len,cap,elems,rest,n,_,hcs,rfl,_,hl,hm,hlen,hel,hsp,_⟩
 ·cases hcs
  exact ⟨[],.inl ⟨rfl,rfl⟩⟩
 ·cases hcs
  obtain ⟨hrl,hr⟩:=hsp rfl
  rw [hc] at hel hr
  have one:∀ {i:Nat} {y:Option (DataW Hh × List MemPlace)},y ≠ none→(W.cells? 0 (a.add (i * 3)) 3).bind (DataW.trod enc P W 0 (fun _=>true) held n e) = y→∃ u v g,W.cell? (a.add (i * 3)) = some (.int .i64 u)∧W.cell? (a.add (i * 3 + 1)) = some (.int .i64 v)∧W.cell? (a.add (i * 3 + 2)) = some (.bool g):=by
   intro i y hy hh
   obtain ⟨y,rfl⟩:=Option.ne_none_iff_exists'.1 hy
   rw [Option.bind_eq_some_iff] at hh
   obtain ⟨cs,hcs,hh⟩:=hh
   obtain ⟨u,v,g,rfl⟩:=change_cells he hc o0 o1 o2 t0 t1 t2 c0 c1 c2 hh
   obtain ⟨_,_,hcell⟩:=World.cells?_some hcs
   refine ⟨u,v,g,?_,?_,?_⟩
   ·simpa [addr_add3] using hcell 0 (by omega)
   ·simpa [addr_add3] using hcell 1 (by omega)
   ·simpa [addr_add3] using hcell 2 (by omega)
  have el:∀ i,i < cap→∃ u v g,W.cell? (a.add (i * 3)) = some (.int .i64 u)∧W.cell? (a.add (i * 3 + 1)) = some (.int .i64 v)∧W.cell? (a.add (i * 3 + 2)) = some (.bool g):=by
   intro i hi
   by_cases h1:i < len
   ·exact one (by rw [List.getElem?_eq_getElem (by omega)]; simp) (hel i h1)
   ·have:=hr (i - len) (by omega)
    rw [show len + (i - len) = i by omega] at this
    exact one (by rw [List.getElem?_eq_getElem (by omega)]; simp) this
  have all:∀ k,k≤cap→∃ ts:List Trp,ts.length = k∧∀ i (hi:i < (tripVals ts).length),∃ v,W.cell? (a.add i) = some v∧absV W.heap.size v = (tripVals ts)[i]:=by
   intro k
   induction k with
   | zero=>exact fun _=>⟨[],rfl,fun i hi=>by simp [tripVals] at hi⟩
   | succ k ih =>
    intro hk
    obtain ⟨ts,hl,hh⟩:=ih (by omega)
    obtain ⟨u,v,g,g0,g1,g2⟩:=el k (by omega)
    refine ⟨ts ++ [(u,v,g)],by simp [hl],fun i hi=>?_⟩
    have e1:tripVals (ts ++ [(u,v,g)]) = tripVals ts ++ [.int .i64 u,.int .i64 v,.bool g]:=by rw [tripVals_append]; rfl
    have hlen3:=tripVals_length ts
    simp only [e1] at hi ⊢
    by_cases h1:i < (tripVals ts).length
    ·rw [List.getElem_append_left h1]
     exact hh i h1
    ·simp only [List.length_append,List.length_cons,List.length_nil] at hi
     rw [List.getElem_append_right (by omega)]
     have h2:i - (tripVals ts).length = 0∨i - (tripVals ts).length = 1∨i - (tripVals ts).length = 2:=by omega
     rcases h2 with h2 | h2 | h2
     ·refine ⟨_,by rw [show i = k * 3 by omega]; exact g0,?_⟩
      simp only [h2]; rfl
     ·refine ⟨_,by rw [show i = k * 3 + 1 by omega]; exact g1,?_⟩
      simp only [h2]; rfl
     ·refine ⟨_,by rw [show i = k * 3 + 2 by omega]; exact g2,?_⟩
      simp only [h2]; rfl
  obtain ⟨ts,hl1,hh⟩:=all len hl
  obtain ⟨b,o,cap',e1,e2,e3,e4⟩:=absH_sliceK (k:=3) (by omega) (len:=len) (cap:=cap) (l:=tripVals ts) (by rw [tripVals_length,hl1]) hl h0 (fun i hi=>by
   obtain ⟨u,v,g,g0,g1,g2⟩:=el (i / 3) (by omega)
   have h2:i = i / 3 * 3∨i = i / 3 * 3 + 1∨i = i / 3 * 3 + 2:=by omega
   rcases h2 with h2 | h2 | h2
   ·exact ⟨_,by rw [h2]; exact g0⟩
   ·exact ⟨_,by rw [h2]; exact g1⟩
   ·exact ⟨_,by rw [h2]; exact g2⟩) hh
  refine ⟨ts,.inr ⟨b,o,cap',0,?_,by rw [hl1]; exact e2,e3,.inl rfl,by rw [hl1]; exact e4⟩⟩
  rw [hl1]
  exact e1
theorem pair_cells {e:TypeId} {f0 f1:Field} {n:Nat} {cs:List Value} {y:DataW Hh × List MemPlace} (he:P.underlying e = some (.struct #[f0,f1])) (hc:P.cellsOf e = 2) (o0:f0.offset = 0) (o1:f1.offset = 1) (t0:P.underlying f0.type = some (.int .i64)) (t1:P.underlying f1.type = some (.int .i64))
  (c0:P.cellsOf f0.type = 1) (c1:P.cellsOf f1.type = 1) (h:DataW.trod enc P W 0 (fun _=>true) held n e cs = some y) :∃ u v,cs = [.int .i64 u,.int .i64 v]:=by
 obtain ⟨y0,y1,m,rfl,hl,g0,g1⟩:=trod_struct2 he h
 rw [hc] at hl
 match cs,hl with
 | [v0,v1],_ =>
  simp [o0,o1,c0,c1] at g0 g1
  obtain ⟨u,e0,_⟩:=DataW.trod_int t0 g0
  obtain ⟨v,e1,_⟩:=DataW.trod_int t1 g1
  simp at e0 e1
  exact ⟨u,v,by rw [e0,e1]⟩
theorem reads_pairs {t e:TypeId} {f0 f1:Field} {fuel:Nat} {v:Value} {x:DataW Hh × List MemPlace} (ht:P.underlying t = some (.slice e)) (he:P.underlying e = some (.struct #[f0,f1])) (hc:P.cellsOf e = 2) (o0:f0.offset = 0) (o1:f1.offset = 1) (t0:P.underlying f0.type = some (.int .i64)) (t1:P.underlying f1.type = some (.int .i64))
  (c0:P.cellsOf f0.type = 1) (c1:P.cellsOf f1.type = 1) (h0:∃ arr e fz,W.heap[0]? = some (.cells arr e fz))
  (h:DataW.trod enc P W 0 (fun _=>true) held fuel t [v] = some x) :∃ ts:List Prr,PReads (absH W).nx.toNat (absH W) (absV W.heap.size v) ts:=by
 rcases DataW.trod_slice ht h with ⟨hcs,hx⟩ | ⟨a,len,cap,elems,rest,n,_,hcs,rfl,_,hl,hm,hlen,hel,hsp,_⟩
 ·cases hcs
  exact ⟨[],.inl ⟨rfl,rfl⟩⟩
 ·cases hcs
  obtain ⟨hrl,hr⟩:=hsp rfl
  rw [hc] at hel hr
  have one:∀ {i:Nat} {y:Option (DataW Hh × List MemPlace)},y ≠ none→(W.cells? 0 (a.add (i * 2)) 2).bind (DataW.trod enc P W 0 (fun _=>true) held n e) = y→∃ u v,W.cell? (a.add (i * 2)) = some (.int .i64 u)∧W.cell? (a.add (i * 2 + 1)) = some (.int .i64 v):=by
   intro i y hy hh
   obtain ⟨y,rfl⟩:=Option.ne_none_iff_exists'.1 hy
   rw [Option.bind_eq_some_iff] at hh
   obtain ⟨cs,hcs,hh⟩:=hh
   obtain ⟨u,v,rfl⟩:=pair_cells he hc o0 o1 t0 t1 c0 c1 hh
   obtain ⟨_,_,hcell⟩:=World.cells?_some hcs
   refine ⟨u,v,?_,?_⟩
   ·simpa [addr_add3] using hcell 0 (by omega)
   ·simpa [addr_add3] using hcell 1 (by omega)
  have el:∀ i,i < cap→∃ u v,W.cell? (a.add (i * 2)) = some (.int .i64 u)∧W.cell? (a.add (i * 2 + 1)) = some (.int .i64 v):=by
   intro i hi
   by_cases h1:i < len
   ·exact one (by rw [List.getElem?_eq_getElem (by omega)]; simp) (hel i h1)
   ·have:=hr (i - len) (by omega)
    rw [show len + (i - len) = i by omega] at this
    exact one (by rw [List.getElem?_eq_getElem (by omega)]; simp) this
  have all:∀ k,k≤cap→∃ ts:List Prr,ts.length = k∧∀ i (hi:i < (pairVals ts).length),∃ v,W.cell? (a.add i) = some v∧absV W.heap.size v = (pairVals ts)[i]:=by
   intro k
   induction k with
   | zero=>exact fun _=>⟨[],rfl,fun i hi=>by simp [pairVals] at hi⟩
   | succ k ih =>
    intro hk
    obtain ⟨ts,hl,hh⟩:=ih (by omega)
    obtain ⟨u,v,g0,g1⟩:=el k (by omega)
    refine ⟨ts ++ [(u,v)],by simp [hl],fun i hi=>?_⟩
    have e1:pairVals (ts ++ [(u,v)]) = pairVals ts ++ [.int .i64 u,.int .i64 v]:=by rw [pairVals_append]; rfl
    have hlen2:=pairVals_length ts
    simp only [e1] at hi ⊢
    by_cases h1:i < (pairVals ts).length
    ·rw [List.getElem_append_left h1]
     exact hh i h1
    ·simp only [List.length_append,List.length_cons,List.length_nil] at hi
     rw [List.getElem_append_right (by omega)]
     have h2:i - (pairVals ts).length = 0∨i - (pairVals ts).length = 1:=by omega
     rcases h2 with h2 | h2
     ·refine ⟨_,by rw [show i = k * 2 by omega]; exact g0,?_⟩
      simp only [h2]; rfl
     ·refine ⟨_,by rw [show i = k * 2 + 1 by omega]; exact g1,?_⟩
      simp only [h2]; rfl
  obtain ⟨ts,hl1,hh⟩:=all len hl
  obtain ⟨b,o,cap',e1,e2,e3,e4⟩:=absH_sliceK (k:=2) (by omega) (len:=len) (cap:=cap) (l:=pairVals ts) (by rw [pairVals_length,hl1]) hl h0 (fun i hi=>by
   obtain ⟨u,v,g0,g1⟩:=el (i / 2) (by omega)
   have h2:i = i / 2 * 2∨i = i / 2 * 2 + 1:=by omega
   rcases h2 with h2 | h2
   ·exact ⟨_,by rw [h2]; exact g0⟩
   ·exact ⟨_,by rw [h2]; exact g1⟩) hh
  refine ⟨ts,.inr ⟨b,o,cap',0,?_,by rw [hl1]; exact e2,e3,.inl rfl,by rw [hl1]; exact e4⟩⟩
  rw [hl1]
  exact e1
end
end Go.Am
end
