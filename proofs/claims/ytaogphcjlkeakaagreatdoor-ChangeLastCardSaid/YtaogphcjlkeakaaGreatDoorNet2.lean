/- Part of the proof: AmMerge, AmMerge2, AmMerge3. -/
import Derived.Test.YtaogphcjlkeakaaGreatDoorNet1
import Derived.Test.YtaogphcjlkeakaaGreatDoorAm28
set_option linter.unusedSimpArgs false
set_option linter.unusedVariables false
section
namespace Go.Am
open Go Go.RowKit
abbrev Mrk:=Int × Bool
def entM (p:Mrk) :AVal × AVal:=(.int .i64 p.1,.bool p.2)
def marksOf:List (AVal × AVal)→Option (List Mrk)
 | []=>some []
 | (.int .i64 u,.bool g) :: l=>match marksOf l with
  | some m=>some ((u,g) :: m)
  | none=>none
 | _ :: _=>none
def hasM (u:Int) :List Mrk→Bool
 | []=>false
 | p :: l=>match eqI u p.1 with
  | true=>true
  | false=>hasM u l
def nodupM:List Mrk→Bool
 | []=>true
 | p :: l=>match hasM p.1 l with
  | true=>false
  | false=>nodupM l
def newM:List Mrk→List Int
 | []=>[]
 | (u,g) :: l=>match g with
  | true=>newM l
  | false=>u :: newM l
def oldM (v:Int) (ms:List Mrk) :List Int→List Int
 | []=>[]
 | u :: l=>match hasM u ms with
  | true=>oldM v ms l
  | false=>match eqI u v with
   | true=>oldM v ms l
   | false=>u :: oldM v ms l
def mergeZ (v:Int) (to:List Int) (ms:List Mrk) :List Int:=compactZ (sortZ (oldM v ms to ++ newM ms))
def intsAt (h:AHeap) :AVal→Option (List Int)
 | .snil=>some []
 | .sl b o n cap sz=>match Nat.ble n cap,(match sz with | 0=>true | 1=>true | _=>false),hloadN h b o n with
  | true,true,some l=>intsOf l
  | _,_,_=>none
 | _=>none
def marksAt (h:AHeap) :AVal→Option (List Mrk)
 | .mnil=>some []
 | .map m=>match entries (PT.get m h.t) with
  | some es=>marksOf es
  | none=>none
 | _=>none
def sMerge:List AVal→AHeap→ARes
 | [.int .i64 v,x,y],h=>match intsAt h x,marksAt h y with
  | some to,some ms=>match nodupM ms,Nat.ble (Nat.add to.length ms.length) 100000000 with
   | true,true=>match mergeZ v to ms with
    | zs=>match h.new (.cells (intVals zs ++ zeros (Nat.sub (Nat.add to.length ms.length) zs.length)) false false) with
     | (b,h')=>some (.sl b 0 zs.length zs.length 0,h')
   | _,_=>none
  | _,_=>none
 | _,_=>none
theorem marksOf_ok:∀ {es:List (AVal × AVal)} {ms:List Mrk},marksOf es = some ms→es = ms.map entM
 | [],ms,h=>by simp [marksOf] at h; subst h; rfl
 | e :: l,ms,h=>by
  unfold marksOf at h
  split at h
  ·rename_i e; cases e
  ·rename_i u g l' e
   cases e
   split at h
   ·rename_i m hm
    cases h
    rw [marksOf_ok hm]; rfl
   ·cases h
  ·cases h
theorem hasM_iff (u:Int) :∀ ms:List Mrk,hasM u ms = true ↔ u ∈ ms.map (·.1)
 | []=>by simp [hasM]
 | p :: l=>by
  simp only [hasM,List.map_cons,List.mem_cons]
  rw [eqI_eq]
  by_cases e:u = p.1
  ·simp [e]
  ·rw [show (u == p.1) = false by simpa using e]
   simp only [hasM_iff u l]
   simp [e]
theorem nodupM_ok:∀ {ms:List Mrk},nodupM ms = true→(ms.map (·.1)).Nodup
 | [],_=>by simp
 | p :: l,h=>by
  simp only [nodupM] at h
  split at h
  ·cases h
  ·rename_i hh
   simp only [List.map_cons,List.nodup_cons]
   exact ⟨fun hm=>(by rw [(hasM_iff _ _).2 hm] at hh; cases hh),nodupM_ok h⟩
theorem eqS_int (H:AHeap) (a b:Int) :eqS H .int (.int .i64 a) (.int .i64 b) = some (eqI a b):=by
 simp only [eqS,kbeq_eq.2 rfl]
theorem findKeyM_none {H:AHeap} {u:Int} :∀ {m:List Mrk},hasM u m = false→findKey H .int (.int .i64 u) (m.map entM) = some none
 | [],_=>rfl
 | p :: m,h=>by
  simp only [hasM] at h
  split at h
  ·cases h
  ·rename_i he
   simp only [List.map_cons,findKey,entM]
   rw [eqS_int,he]
   exact findKeyM_none h
theorem findKeyM {H:AHeap} {u:Int} :∀ {m:List Mrk},(m.map (·.1)).Nodup→hasM u m = true→∃ g,findKey H .int (.int .i64 u) (m.map entM) = some (some (.bool g))
 | [],_,h=>by cases h
 | p :: m,hn,h=>by
  simp only [List.map_cons,List.nodup_cons] at hn
  simp only [List.map_cons,findKey,entM]
  rw [eqS_int]
  cases he:eqI u p.1 with
  | true =>
   have hu:u = p.1:=by rw [eqI_eq] at he; simpa using he
   have hno:hasM u m = false:=by
    cases hb:hasM u m with
    | false=>rfl
    | true=>exact absurd ((hasM_iff u m).1 hb) (hu ▸ hn.1)
   exact ⟨p.2,by simp only [findKeyM_none hno]⟩
  | false =>
   simp only [hasM,he] at h
   exact findKeyM hn.2 h
theorem oldM_snoc (v:Int) (ms:List Mrk) (u:Int) :∀ l:List Int,oldM v ms (l ++ [u]) = oldM v ms l ++ (match hasM u ms with | true=>[] | false=>match eqI u v with | true=>[] | false=>[u])
 | []=>by
  simp only [List.nil_append,oldM]
 | x :: l=>by
  simp only [List.cons_append,oldM,oldM_snoc v ms u l]
  cases hasM x ms <;> cases eqI x v <;> rfl
theorem newM_snoc (p:Mrk) :∀ l:List Mrk,newM (l ++ [p]) = newM l ++ (match p.2 with | true=>[] | false=>[p.1])
 | []=>by
  obtain ⟨u,g⟩:=p
  cases g <;> rfl
 | (x,g) :: l=>by
  simp only [List.cons_append,newM,newM_snoc p l]
  cases g <;> rfl
theorem oldM_length (v:Int) (ms:List Mrk) :∀ l:List Int,(oldM v ms l).length≤l.length
 | []=>Nat.le_refl _
 | x :: l=>by
  have:=oldM_length v ms l
  simp only [oldM]
  cases hasM x ms <;> cases eqI x v <;> simp <;> omega
theorem newM_length:∀ l:List Mrk,(newM l).length≤l.length
 | []=>Nat.le_refl _
 | (x,g) :: l=>by
  have:=newM_length l
  cases g <;> simp [newM] <;> omega
theorem newM_perm {a b:List Mrk} (h:a.Perm b) :(newM a).Perm (newM b):=by
 have e:∀ l:List Mrk,newM l = (l.filter (fun p=>!p.2)).map (·.1):=by
  intro l
  induction l with
  | nil=>rfl
  | cons p l ih =>
   obtain ⟨u,g⟩:=p
   cases g <;> simp [newM,ih]
 rw [e,e]
 exact (h.filter _).map _
theorem zeros_add:∀ (a b:Nat),zeros a ++ zeros b = zeros (a + b)
 | 0,b=>by simp [zeros]
 | a + 1,b=>by rw [Nat.succ_add]; simp [zeros,zeros_add a b]
theorem repl_zeros:∀ n,repl [.int .i64 (.ofNat 0)] n = zeros n
 | 0=>rfl
 | n + 1=>by
  simp only [repl,zeros,repl_zeros n]
  rfl
theorem zeros_length:∀ n,(zeros n).length = n
 | 0=>rfl
 | n + 1=>by simp [zeros,zeros_length n]
theorem zeros_drop1 (n:Nat) :(zeros n).drop 1 = zeros (n - 1):=by
 cases n <;> simp [zeros]
theorem append_zroom {H:AHeap} {b:Pos} {l:List Int} {x:AVal} {cap by':Nat} {u:Int} (hb:PT.get b H.t = some (.cells (intVals l ++ zeros (cap - l.length)) false false)) (hc:l.length < cap) (hx:srcCells H 1 x = some (1,[.int .i64 u])) :
  appendA H 1 by' (.sl b 0 l.length cap 0) x = some (.sl b 0 (l.length + 1) cap 0,H.upd b (.cells (intVals (l ++ [u]) ++ zeros (cap - (l.length + 1))) false false)):=by
 unfold appendA
 rw [hx]
 have e1:Nat.ble (Nat.add l.length 1) cap = true:=ble_t hc
 have e2:hstoreN H b (Nat.add 0 (Nat.mul l.length 1)) [.int .i64 u] = some (H.upd b (.cells (intVals (l ++ [u]) ++ zeros (cap - (l.length + 1))) false false)):=by
  unfold hstoreN
  rw [hb,show Nat.add 0 (Nat.mul l.length 1) = l.length by show 0 + l.length * 1 = _; omega]
  have hs:allScal [AVal.int .i64 u] = true:=rfl
  simp only [hs]
  have hl:=intVals_length l
  have hz:=zeros_length (cap - l.length)
  rw [lput_of _ _ _ (by simp [hl,hz]; omega)]
  have h1:List.take l.length (intVals l ++ zeros (cap - l.length)) = intVals l:=by rw [← hl]; simp
  have h2:List.drop (l.length + [AVal.int .i64 u].length) (intVals l ++ zeros (cap - l.length)) = zeros (cap - (l.length + 1)):=by
   rw [List.drop_append,hl]
   simp only [List.length_singleton,Nat.add_sub_cancel_left,zeros_drop1]
   rw [List.drop_eq_nil_of_le (by rw [hl]; omega)]
   simp only [List.nil_append]
   congr 1
  rw [h1,h2,intVals_append]
  rfl
 simp only [e1,e2]
def roOf:AObj→Option AObj
 | .cells l _ _=>some (.cells l false true)
 | .map es=>some (.rmap es)
 | .rmap es=>some (.rmap es)
 | .loop _=>none
 | .dfr _=>none
 | .raw _=>none
def partOf (h:AHeap) :List Pos→PT AObj
 | []=>.l
 | p :: ps=>match PT.get p h.t with
  | some o=>match roOf o with
   | some o0=>PT.set p (some o0) (partOf h ps)
   | none=>partOf h ps
  | none=>partOf h ps
theorem roOf_ok {o o0:AObj} (h:roOf o = some o0) :RoObj o o0:=by
 cases o <;> simp [roOf] at h <;> subst h
 ·exact .inl ⟨_,_,_,rfl,rfl⟩
 ·exact .inr ⟨_,rfl,rfl⟩
 ·exact .inr ⟨_,rfl,rfl⟩
theorem partOf_sub (h:AHeap) :∀ (ps:List Pos) (p:Pos) (o0:AObj),PT.get p (partOf h ps) = some o0→∃ o,PT.get p h.t = some o∧roOf o = some o0
 | [],p,o0,e=>by simp only [partOf] at e; rw [get_nil] at e; cases e
 | q :: ps,p,o0,e=>by
  simp only [partOf] at e
  split at e
  ·rename_i o ho
   split at e
   ·rename_i o1 hr
    by_cases hq:q = p
    ·subst hq
     rw [PT.get_set_same] at e
     cases e
     exact ⟨o,ho,hr⟩
    ·rw [PT.get_set_other _ _ _ _ hq] at e
     exact partOf_sub h ps p o0 e
   ·exact partOf_sub h ps p o0 e
  ·exact partOf_sub h ps p o0 e
theorem partOf_get (h:AHeap) {p:Pos} {o o0:AObj} (ho:PT.get p h.t = some o) (hr:roOf o = some o0) :∀ {ps:List Pos},p ∈ ps→PT.get p (partOf h ps) = some o0
 | [],hp=>by cases hp
 | q :: ps,hp=>by
  simp only [partOf]
  by_cases hq:q = p
  ·subst hq
   rw [ho]
   simp only [hr]
   exact PT.get_set_same _ _ _
  ·have hp:p ∈ ps:=by
    rcases List.mem_cons.1 hp with e | e
    ·exact absurd e.symm hq
    ·exact e
   have ih:=partOf_get h ho hr hp
   split
   ·split
    ·rw [PT.get_set_other _ _ _ _ hq]; exact ih
    ·exact ih
   ·exact ih
def MReads (n:Nat) (H:AHeap) (y:AVal) (ms:List Mrk) :Prop:=(y = .mnil∧ms = [])∨∃ m,y = .map m∧entries (PT.get m H.t) = some (ms.map entM)∧m.toNat < n
theorem MReads.keep {n k:Nat} {H H':AHeap} {y:AVal} {ms:List Mrk} (h:MReads n H y ms) (hk:Keep k H H') (hn:n≤k) :MReads n H' y ms:=by
 rcases h with h | ⟨m,e,h1,h2⟩
 ·exact .inl h
 ·exact .inr ⟨m,e,by rw [hk.get m (by omega)]; exact h1,h2⟩
theorem MReads.fLen {n:Nat} {H:AHeap} {y:AVal} {ms:List Mrk} (h:MReads n H y ms) :fLen H 2 y = some (.int .i64 (.ofNat ms.length)):=by
 rcases h with ⟨rfl,rfl⟩ | ⟨m,rfl,h1,_⟩
 ·rfl
 ·simp [Go.Am.fLen,h1]
theorem MReads.look {n:Nat} {H:AHeap} {y:AVal} {ms:List Mrk} (h:MReads n H y ms) (hn:(ms.map (·.1)).Nodup) (u:Int) :∃ g,fLookup H .int (.bool false) y (.int .i64 u) true = some (.tup [.bool g,.bool (hasM u ms)]):=by
 rcases h with ⟨rfl,rfl⟩ | ⟨m,rfl,h1,_⟩
 ·exact ⟨false,rfl⟩
 ·cases hh:hasM u ms with
  | false=>exact ⟨false,by simp only [fLookup,keyFit,h1,findKeyM_none hh]⟩
  | true =>
   obtain ⟨g,hg⟩:=findKeyM (H:=H) hn hh
   exact ⟨g,by simp only [fLookup,keyFit,h1,hg]⟩
section
variable {E:Env}
theorem clip_ok (C:CodeOk E) {H:AHeap} {b:Pos} {k cap:Nat} (hk:k≤cap) :CallS E 79 [.sl b 0 k cap 0] H (.sl b 0 k k 0) H:=by
 suffices h:∃ v H',CallS E 79 [.sl b 0 k cap 0] H v H'∧v = .sl b 0 k k 0∧H' = H by obtain ⟨v,H',h,rfl,rfl⟩:=h; exact h
 refine CallS.by (R:=fun v H'=>v = .sl b 0 k k 0∧H' = H) (t0:=tput .l (some (Pos.ofNat 0)) (.sl b 0 k cap 0)) (C.s _ rfl) rfl C.f79 rfl ?_
 refine W.seq (W.region ?_)
 simp (maxDischargeDepth:=9) only [auW,auC,auT,lget,BEq.rfl,beq_self_eq_true,decide_true,decide_false,reduceCtorEq,Nat.reduceLT,Nat.reduceEqDiff,↓reduceIte,g79r0]
 refine W.seq (W.region ?_)
 have hl:fLen H 1 (.sl b 0 k cap 0) = some (.int .i64 (.ofNat k)):=rfl
 have hs:∀ t:PT AVal,tget t (Pos.ofNat 5) = .int .i64 (.ofNat k)→tget t (Pos.ofNat 7) = .int .i64 (.ofNat k)→sliceA t (.sl 1) (.sl b 0 k cap 0) none (some (.t (Pos.ofNat 5))) (some (.t (Pos.ofNat 7))) = some (.sl b 0 k k 0):=by
  intro t h5 h7
  have e1:Nat.ble k cap = true:=ble_t hk
  have e2:Nat.ble k k = true:=ble_t (Nat.le_refl _)
  have e3:Nat.ble 0 k = true:=ble_t (Nat.zero_le _)
  simp only [sliceA,boundOf,AOpnd.ev,h5,h7,natOf,e1,e2,e3,nsub,Nat.sub_zero]
  cases Nat.beq k 0 <;> rfl
 simp (maxDischargeDepth:=9) only [auW,auC,auT,lget,BEq.rfl,beq_self_eq_true,decide_true,decide_false,reduceCtorEq,Nat.reduceLT,Nat.reduceEqDiff,↓reduceIte,g79r1,hl,hs]
 refine W.ret ⟨.inr rfl,rfl,.sl b 0 k k 0,?_,rfl,rfl⟩
 simp [resultA,g79,tget_puts]
end
end Go.Am
end

section
namespace Go.Am
open Go Go.RowKit
theorem Reads.fLen' {n:Nat} {H:AHeap} {v:AVal} {l:List AVal} (h:Reads n H v l) :fLen H 1 v = some (.int .i64 (.ofNat l.length)):=by
 rcases h with ⟨rfl,rfl⟩ | ⟨b,o,cap,sz,rfl,h,_⟩ <;> rfl
theorem Reads.fIdx' {n:Nat} {H:AHeap} {v:AVal} {l:List AVal} (h:Reads n H v l) {i:Nat} (hi:i < l.length) :∃ b o,fIdxS 1 v (.int .i64 (.ofNat i)) = some (.ptr b o)∧hload H b o = some l[i]:=by
 obtain ⟨b,o,cap,sz,rfl,h'⟩:=h.idx hi
 refine ⟨b,o + i,?_,h'⟩
 simp only [fIdxS,natOf,blt_t hi,off1]
section
variable {E:Env}
theorem merge_loop {N:Nat} {H0:AHeap} {x y:AVal} {to:List Int} {ms:List Mrk} {v:Int} (hx:Reads N H0 x (intVals to)) (hy:MReads N H0 y ms) (hnd:(ms.map (·.1)).Nodup) (hl:to.length≤1073741824) {cap:Nat} (hcap:to.length≤cap) {b:Pos} (hNb:N≤b.toNat) {ro:Option Pos} :
  ∀ (n:Nat) (t:PT AVal) (H:AHeap),(∃ i,i + n = to.length∧tget t (Pos.ofNat 20) = x∧tget t (Pos.ofNat 21) = .int .i64 (.ofNat to.length)∧tget t (Pos.ofNat 22) = .int .i64 (.ofNat i)∧tget t (Pos.ofNat 2) = y∧tget t (Pos.ofNat 0) = .int .i64 v∧tget t (Pos.ofNat 7) = .sl b 0 (oldM v ms (to.take i)).length cap 0 ∧
   PT.get b H.t = some (.cells (intVals (oldM v ms (to.take i)) ++ zeros (cap - (oldM v ms (to.take i)).length)) false false)∧b.toNat < H.nx.toNat∧Keep N H0 H) →
  W E (.loop g32l9) ro ⟨t,[]⟩ H (fun e a H'=>e = .exit 0∧a.ds = []∧tget a.t (Pos.ofNat 2) = y∧tget a.t (Pos.ofNat 7) = .sl b 0 (oldM v ms to).length cap 0∧PT.get b H'.t = some (.cells (intVals (oldM v ms to) ++ zeros (cap - (oldM v ms to).length)) false false)∧b.toNat < H'.nx.toNat∧Keep N H0 H'):=by
 refine W.loop_inv (Q:=fun e a H'=>e = .exit 0∧a.ds = []∧tget a.t (Pos.ofNat 2) = y∧tget a.t (Pos.ofNat 7) = .sl b 0 (oldM v ms to).length cap 0∧PT.get b H'.t = some (.cells (intVals (oldM v ms to) ++ zeros (cap - (oldM v ms to).length)) false false)∧b.toNat < H'.nx.toNat∧Keep N H0 H') _ ?_
 rintro n t H ⟨i,hi,h20,h21,h22,h2,h0,h7,hb,hbl,hk⟩
 refine W.seq (W.region ?_)
 simp (maxDischargeDepth:=9) only [auW,auC,auT,lget,BEq.rfl,beq_self_eq_true,decide_true,decide_false,reduceCtorEq,Nat.reduceLT,Nat.reduceEqDiff,↓reduceIte,g32r3,h21,h22]
 refine W.seq (W.cond_if (p:=i < to.length) (by simp [AOpnd.ev,tget_puts]) (fun hlt=>W.skip ?_) (fun hge=>W.exit ?_))
 rotate_left
 ·rw [List.take_of_length_le (by omega)] at h7 hb
  refine ⟨by trivial,by trivial,?_,?_,hb,hbl,hk⟩
  ·simp only [tget_puts,Nat.reduceLT,Nat.reduceEqDiff,↓reduceIte,h2]
  ·simp only [tget_puts,Nat.reduceLT,Nat.reduceEqDiff,↓reduceIte,h7]
 simp only [andThen]
 obtain ⟨bx,ox,e1,e2⟩:=(hx.keep hk (Nat.le_refl _)).fIdx' (i:=i) (by rw [intVals_length]; exact hlt)
 have e2:hload H bx ox = some (.int .i64 to[i]):=by
  rw [e2]
  congr 1
  simp [intVals_eq]
 obtain ⟨g,hlook⟩:=(hy.keep hk (Nat.le_refl _)).look hnd to[i]
 have hsn:oldM v ms (to.take (i + 1)) = oldM v ms (to.take i) ++ (match hasM to[i] ms with | true=>[] | false=>match eqI to[i] v with | true=>[] | false=>[to[i]]):=by
  rw [List.take_succ_eq_append_getElem hlt,oldM_snoc]
  try (cases hasM to[i] ms <;> cases eqI to[i] v <;> rfl)
 have hol:=oldM_length v ms (to.take i)
 rw [List.length_take] at hol
 refine W.seq (W.block (W.seq (W.region ?_)))
 simp (maxDischargeDepth:=9) only [auW,auC,auT,lget,BEq.rfl,beq_self_eq_true,decide_true,decide_false,reduceCtorEq,Nat.reduceLT,Nat.reduceEqDiff,↓reduceIte,g32r4,h20,h22,e1,e2]
 simp only [andThen]
 refine W.seq (W.region ?_)
 simp (maxDischargeDepth:=9) only [auW,auC,auT,lget,BEq.rfl,beq_self_eq_true,decide_true,decide_false,reduceCtorEq,Nat.reduceLT,Nat.reduceEqDiff,↓reduceIte,g32r5,h2,hlook]
 simp only [andThen]
 refine W.seq (W.region ?_)
 have fin:∀ (t':PT AVal) (H':AHeap),tget t' (Pos.ofNat 20) = x→tget t' (Pos.ofNat 22) = .int .i64 (.ofNat i)→tget t' (Pos.ofNat 21) = .int .i64 (.ofNat to.length)→tget t' (Pos.ofNat 2) = y→tget t' (Pos.ofNat 0) = .int .i64 v→tget t' (Pos.ofNat 7) = .sl b 0 (oldM v ms (to.take (i + 1))).length cap 0 →
   PT.get b H'.t = some (.cells (intVals (oldM v ms (to.take (i + 1))) ++ zeros (cap - (oldM v ms (to.take (i + 1))).length)) false false)→b.toNat < H'.nx.toNat→Keep N H0 H' →
   W E (.region g32r8) ro ⟨t',[]⟩ H' (loopPost [] (fun n t H=>∃ i,i + n = to.length∧tget t (Pos.ofNat 20) = x∧tget t (Pos.ofNat 21) = .int .i64 (.ofNat to.length)∧tget t (Pos.ofNat 22) = .int .i64 (.ofNat i)∧tget t (Pos.ofNat 2) = y∧tget t (Pos.ofNat 0) = .int .i64 v∧tget t (Pos.ofNat 7) = .sl b 0 (oldM v ms (to.take i)).length cap 0 ∧
   PT.get b H.t = some (.cells (intVals (oldM v ms (to.take i)) ++ zeros (cap - (oldM v ms (to.take i)).length)) false false)∧b.toNat < H.nx.toNat∧Keep N H0 H) (fun e a H'=>e = .exit 0∧a.ds = []∧tget a.t (Pos.ofNat 2) = y∧tget a.t (Pos.ofNat 7) = .sl b 0 (oldM v ms to).length cap 0∧PT.get b H'.t = some (.cells (intVals (oldM v ms to) ++ zeros (cap - (oldM v ms to).length)) false false)∧b.toNat < H'.nx.toNat∧Keep N H0 H') n):=by
  intro t' H' g20 g22 g21 g2 g0 g7 gb gl gk
  refine W.region ?_
  simp (maxDischargeDepth:=9) only [auW,auC,auT,lget,BEq.rfl,beq_self_eq_true,decide_true,decide_false,reduceCtorEq,Nat.reduceLT,Nat.reduceEqDiff,↓reduceIte,g32r8,g22,b_add (show i + 1≤9223372036854775807 by omega)]
  refine ⟨by trivial,n - 1,by omega,i + 1,by omega,?_,?_,?_,?_,?_,?_,gb,gl,gk⟩
  ·simp only [tget_puts,Nat.reduceLT,Nat.reduceEqDiff,↓reduceIte,g20]
  ·simp only [tget_puts,Nat.reduceLT,Nat.reduceEqDiff,↓reduceIte,g21]
  ·simp only [tget_puts,Nat.reduceLT,Nat.reduceEqDiff,↓reduceIte]
  ·simp only [tget_puts,Nat.reduceLT,Nat.reduceEqDiff,↓reduceIte,g2]
  ·simp only [tget_puts,Nat.reduceLT,Nat.reduceEqDiff,↓reduceIte,g0]
  ·simp only [tget_puts,Nat.reduceLT,Nat.reduceEqDiff,↓reduceIte,g7]
 cases hh:hasM to[i] ms with
 | true =>
  rw [hh] at hsn
  simp only [List.append_nil] at hsn
  simp (maxDischargeDepth:=9) only [auW,auC,auT,lget,BEq.rfl,beq_self_eq_true,decide_true,decide_false,reduceCtorEq,Nat.reduceLT,Nat.reduceEqDiff,↓reduceIte,g32r6,hh,h0]
  simp only [andThen]
  refine W.cond_false (by simp [AOpnd.ev,tget_puts]) (W.skip ?_)
  simp only [andThen,inBlock]
  refine fin _ _ ?_ ?_ ?_ ?_ ?_ ?_ (by rw [hsn]; exact hb) hbl hk
  ·simp only [tget_puts,Nat.reduceLT,Nat.reduceEqDiff,↓reduceIte,h20]
  ·simp only [tget_puts,Nat.reduceLT,Nat.reduceEqDiff,↓reduceIte,h22]
  ·simp only [tget_puts,Nat.reduceLT,Nat.reduceEqDiff,↓reduceIte,h21]
  ·simp only [tget_puts,Nat.reduceLT,Nat.reduceEqDiff,↓reduceIte,h2]
  ·simp only [tget_puts,Nat.reduceLT,Nat.reduceEqDiff,↓reduceIte,h0]
  ·simp only [tget_puts,Nat.reduceLT,Nat.reduceEqDiff,↓reduceIte,h7,hsn]
 | false =>
  rw [hh] at hsn
  simp only at hsn
  simp (maxDischargeDepth:=9) only [auW,auC,auT,lget,BEq.rfl,beq_self_eq_true,decide_true,decide_false,reduceCtorEq,Nat.reduceLT,Nat.reduceEqDiff,↓reduceIte,g32r6,hh,h0]
  simp only [andThen]
  by_cases he:to[i] = v
  ·have hee:eqI to[i] v = true:=by rw [eqI_eq]; simpa using he
   rw [hee] at hsn
   simp only [List.append_nil] at hsn
   refine W.cond_false (by simp [AOpnd.ev,tget_puts,he]) (W.skip ?_)
   simp only [andThen,inBlock]
   refine fin _ _ ?_ ?_ ?_ ?_ ?_ ?_ (by rw [hsn]; exact hb) hbl hk
   ·simp only [tget_puts,Nat.reduceLT,Nat.reduceEqDiff,↓reduceIte,h20]
   ·simp only [tget_puts,Nat.reduceLT,Nat.reduceEqDiff,↓reduceIte,h22]
   ·simp only [tget_puts,Nat.reduceLT,Nat.reduceEqDiff,↓reduceIte,h21]
   ·simp only [tget_puts,Nat.reduceLT,Nat.reduceEqDiff,↓reduceIte,h2]
   ·simp only [tget_puts,Nat.reduceLT,Nat.reduceEqDiff,↓reduceIte,h0]
   ·simp only [tget_puts,Nat.reduceLT,Nat.reduceEqDiff,↓reduceIte,h7,hsn]
  ·have hee:eqI to[i] v = false:=by rw [eqI_eq]; simpa using he
   rw [hee] at hsn
   simp only at hsn
   refine W.cond_true (by simp [AOpnd.ev,tget_puts,he]) (W.region ?_)
   simp (maxDischargeDepth:=9) only [auW,auC,auT,lget,BEq.rfl,beq_self_eq_true,decide_true,decide_false,reduceCtorEq,Nat.reduceLT,Nat.reduceEqDiff,↓reduceIte,g32r7,h7]
   refine wo_buildSlice (fill1 (v:=.int .i64 to[i]) (by simp [AOpnd.ev,tget_puts]) rfl) ?_
   have hbne:b ≠ H.nx:=fun e=>by rw [e] at hbl; omega
   have hb2:PT.get b (H.new (.cells [.int .i64 to[i]] false false)).2.t = some (.cells (intVals (oldM v ms (to.take i)) ++ zeros (cap - (oldM v ms (to.take i)).length)) false false):=by
    rw [get_new_other hbne]; exact hb
   refine wo_appendE (append_zroom (by':=8) hb2 (by omega) src_new) (by simp only [auT,Nat.reduceLT,Nat.reduceEqDiff,↓reduceIte,h7]) (by simp only [auT,Nat.reduceLT,Nat.reduceEqDiff,↓reduceIte]; rfl) ?_
   simp (maxDischargeDepth:=9) only [auW,auC,auT,lget,BEq.rfl,beq_self_eq_true,decide_true,decide_false,reduceCtorEq,Nat.reduceLT,Nat.reduceEqDiff,↓reduceIte]
   simp only [andThen,inBlock]
   have hlen1:(oldM v ms (to.take (i + 1))).length = (oldM v ms (to.take i)).length + 1:=by rw [hsn]; simp
   refine fin _ _ ?_ ?_ ?_ ?_ ?_ ?_ (by rw [hlen1,hsn]; exact get_upd) ?_ ?_
   ·simp only [tget_puts,Nat.reduceLT,Nat.reduceEqDiff,↓reduceIte,h20]
   ·simp only [tget_puts,Nat.reduceLT,Nat.reduceEqDiff,↓reduceIte,h22]
   ·simp only [tget_puts,Nat.reduceLT,Nat.reduceEqDiff,↓reduceIte,h21]
   ·simp only [tget_puts,Nat.reduceLT,Nat.reduceEqDiff,↓reduceIte,h2]
   ·simp only [tget_puts,Nat.reduceLT,Nat.reduceEqDiff,↓reduceIte,h0]
   ·simp only [tget_puts,Nat.reduceLT,Nat.reduceEqDiff,↓reduceIte,hlen1]
   ·show b.toNat < H.nx.succ.toNat
    rw [Pos.toNat_succ]; omega
   ·have hNn:N≤H.nx.toNat:=by omega
    exact hk.trans ((keep_new.mono hNn).trans (keep_upd hNb))
end
end Go.Am
end

section
namespace Go.Am
open Go Go.RowKit
def blockOf:AVal→List Pos
 | .sl b _ _ _ _=>[b]
 | .map m=>[m]
 | _=>[]
theorem intsAt_part {h:AHeap} {x y:AVal} {to:List Int} {ms:List Mrk} (hx:intsAt h x = some to) (hy:marksAt h y = some ms) :∃ t0:PT AObj,(∀ p o0,PT.get p t0 = some o0→∃ o,PT.get p h.t = some o∧RoObj o o0)∧(∀ nx,(∀ p,PT.get p h.t ≠ none→p.toNat < nx)→Reads nx ⟨t0,h.nx⟩ x (intVals to)∧MReads nx ⟨t0,h.nx⟩ y ms):=by
 refine ⟨partOf h (blockOf x ++ blockOf y),fun p o0 hp=>?_,fun nx hnx=>⟨?_,?_⟩⟩
 ·obtain ⟨o,h1,h2⟩:=partOf_sub h _ p o0 hp
  exact ⟨o,h1,roOf_ok h2⟩
 ·unfold intsAt at hx
  split at hx
  ·cases hx
   exact .inl ⟨rfl,rfl⟩
  ·rename_i b o n cap sz
   split at hx
   ·rename_i l hle hsz hl
    have hle:=Nat.le_of_ble_eq_true hle
    have hsz:sz = 0∨sz = 1:=by
     split at hsz
     ·exact .inl rfl
     ·exact .inr rfl
     ·cases hsz
    have e:=intsOf_ok hx
    subst e
    unfold hloadN at hl
    split at hl
    ·rename_i c op ro hb
     have hn:n = (intVals to).length:=by
      obtain ⟨e1,e2⟩:=lsub_eq hl
      rw [e1,List.length_take,List.length_drop]
      omega
     have hg:=partOf_get h hb (o0:=.cells c false true) rfl (ps:=blockOf (.sl b o n cap sz) ++ blockOf y) (by simp [blockOf])
     refine .inr ⟨b,o,cap,sz,by rw [hn],?_,hnx b (by rw [hb]; simp),hsz,by omega⟩
     unfold hloadN
     rw [hg]
     rw [hn] at hl
     exact hl
    ·cases hl
   ·cases hx
  ·cases hx
 ·unfold marksAt at hy
  split at hy
  ·cases hy
   exact .inl ⟨rfl,rfl⟩
  ·rename_i m
   split at hy
   ·rename_i es hes
    have e:=marksOf_ok hy
    subst e
    refine .inr ⟨m,rfl,?_,hnx m (fun e=>by rw [e] at hes; cases hes)⟩
    rcases entries_inv hes with hm | hm
    ·rw [partOf_get h hm (o0:=.rmap (ms.map entM)) rfl (ps:=blockOf x ++ blockOf (.map m)) (by simp [blockOf])]; rfl
    ·rw [partOf_get h hm (o0:=.rmap (ms.map entM)) rfl (ps:=blockOf x ++ blockOf (.map m)) (by simp [blockOf])]; rfl
   ·cases hy
  ·cases hy
section
variable {P:Program} {T:Tys} {E:Env}
theorem merge_round {cap:Nat} {t:PT AVal} {H:AHeap} {b m pr:Pos} {l:List Int} {y:Mrk} (h7:tget t (Pos.ofNat 7) = .sl b 0 l.length cap 0) (hb:PT.get b H.t = some (.cells (intVals l ++ zeros (cap - l.length)) false false)) (hbl:b.toNat < H.nx.toNat) (hlt:l.length < cap) (h45:tget t (Pos.ofNat 45) = .ptr pr 0)
  (hpr:∃ x,PT.get pr H.t = some (.raw x)) (hm:∃ x,PT.get m H.t = some (.raw x)) (hprl:pr.toNat < H.nx.toNat) (hml:m.toNat < H.nx.toNat) :
  WO E [] [⟨some (Pos.ofNat 49),.extract (.t (Pos.ofNat 48)) 0,none⟩,⟨some (Pos.ofNat 50),.extract (.t (Pos.ofNat 48)) 1,none⟩,⟨some (Pos.ofNat 12),.move (.t (Pos.ofNat 49)),none⟩,⟨some (Pos.ofNat 13),.move (.t (Pos.ofNat 50)),none⟩]
   (tput (tput (tput t (some (Pos.ofNat 46)) (.tup [.bool true,(entM y).1,(entM y).2])) (some (Pos.ofNat 47)) (.bool true)) (some (Pos.ofNat 48)) (.tup [(entM y).1,(entM y).2])) H
   (fun t2 H2=>W E (.seq (.region g32r13) (.cond (.t (Pos.ofNat 52)) (.region g32r14) .skip)) none ⟨t2,[]⟩ H2 (fun e aa H3=>e = .normal∧aa.ds = []∧(tget aa.t (Pos.ofNat 7) = .sl b 0 (l ++ (match y.2 with | true=>[] | false=>[y.1])).length cap 0∧PT.get b H3.t = some (.cells (intVals (l ++ (match y.2 with | true=>[] | false=>[y.1])) ++ zeros (cap - (l ++ (match y.2 with | true=>[] | false=>[y.1])).length)) false false)∧b.toNat < H3.nx.toNat∧H.nx.toNat≤H3.nx.toNat)∧tget aa.t (Pos.ofNat 45) = .ptr pr 0∧PT.get pr H3.t = PT.get pr H.t∧PT.get m H3.t = PT.get m H.t)):=by
 have hbn:b ≠ H.nx:=fun e=>by rw [e] at hbl; omega
 have hprn:pr ≠ H.nx:=fun e=>by rw [e] at hprl; omega
 have hmn:m ≠ H.nx:=fun e=>by rw [e] at hml; omega
 obtain ⟨ox,hpr⟩:=hpr
 obtain ⟨mx,hm⟩:=hm
 have hbp:b ≠ pr:=fun e=>by rw [e,hpr] at hb; cases hb
 have hbm:b ≠ m:=fun e=>by rw [e,hm] at hb; cases hb
 simp (maxDischargeDepth:=9) only [auW,auC,auT,lget,BEq.rfl,beq_self_eq_true,decide_true,decide_false,reduceCtorEq,Nat.reduceLT,Nat.reduceEqDiff,↓reduceIte,entM]
 refine W.seq (W.region ?_)
 simp (maxDischargeDepth:=9) only [auW,auC,auT,lget,BEq.rfl,beq_self_eq_true,decide_true,decide_false,reduceCtorEq,Nat.reduceLT,Nat.reduceEqDiff,↓reduceIte,g32r13]
 simp only [andThen]
 obtain ⟨u,g⟩:=y
 cases g with
 | true =>
  refine W.cond_false (by simp [AOpnd.ev,tget_puts]) (W.skip ?_)
  simp only [List.append_nil]
  refine ⟨by trivial,by trivial,⟨?_,hb,hbl,Nat.le_refl _⟩,?_,by trivial,by trivial⟩
  ·simp only [tget_puts,Nat.reduceLT,Nat.reduceEqDiff,↓reduceIte,h7]
  ·simp only [tget_puts,Nat.reduceLT,Nat.reduceEqDiff,↓reduceIte,h45]
 | false =>
  refine W.cond_true (by simp [AOpnd.ev,tget_puts]) (W.region ?_)
  simp (maxDischargeDepth:=9) only [auW,auC,auT,lget,BEq.rfl,beq_self_eq_true,decide_true,decide_false,reduceCtorEq,Nat.reduceLT,Nat.reduceEqDiff,↓reduceIte,g32r14,h7]
  refine wo_buildSlice (fill1 (v:=.int .i64 u) (by simp [AOpnd.ev,tget_puts]) rfl) ?_
  have hb2:PT.get b (H.new (.cells [.int .i64 u] false false)).2.t = some (.cells (intVals l ++ zeros (cap - l.length)) false false):=by
   rw [get_new_other hbn]; exact hb
  refine wo_appendE (append_zroom (by':=8) hb2 hlt src_new) (by simp only [auT,Nat.reduceLT,Nat.reduceEqDiff,↓reduceIte,h7]) (by simp only [auT,Nat.reduceLT,Nat.reduceEqDiff,↓reduceIte]; rfl) ?_
  simp (maxDischargeDepth:=9) only [auW,auC,auT,lget,BEq.rfl,beq_self_eq_true,decide_true,decide_false,reduceCtorEq,Nat.reduceLT,Nat.reduceEqDiff,↓reduceIte]
  have hlen1:(l ++ [u]).length = l.length + 1:=by simp
  refine ⟨by trivial,by trivial,⟨?_,by rw [hlen1]; exact get_upd,?_,?_⟩,?_,?_,?_⟩
  ·simp
  ·show b.toNat < H.nx.succ.toNat
   rw [Pos.toNat_succ]; omega
  ·show H.nx.toNat≤H.nx.succ.toNat
   rw [Pos.toNat_succ]; omega
  ·try (simp only [tget_puts,Nat.reduceLT,Nat.reduceEqDiff,↓reduceIte,h45])
  ·rw [get_upd_other hbp,get_new_other hprn]
  ·rw [get_upd_other hbm,get_new_other hmn]
theorem sumOk_merge (hT:TOk2 T P) (hE:∀ B,EnvOk P T B E) (hm:P.follows .mixedOrders = true) (C:CodeOk E) (hsort:PT.get (Pos.ofNat 78) E.sums = some sSortZ) (hcomp:PT.get (Pos.ofNat 80) E.sums = some sCompactZ) {f:FuncId} {fn:Func} (hf:P.funcs[f]? = some fn) (hname:(fn.name == "runtime.NumGoroutine") = false)
  {c0 c1 c2 c8 c9 restC:Code} {i3 b0 b1 rn re:Nat} {q0 oR o1 o2 oE:Oper} {opsE:Array Oper} {lE:List Oper}
  (hb:fn.body = some (.seq c0 (.seq c1 (.seq c2 (.seq (.seq (.region i3 #[q0,oR] false) (.block b0 (.loop (.seq (.region rn #[o1,o2] false) (.seq (.cond (.tmp 47) .skip (.exit b0)) (.block b1 (.seq (.region re opsE false) restC))))))) (.seq c8 (.seq c9 .ret)))))))
  (hnt:fn.ntmps = 62) (hres:compRes T fn.results.toList = some [(Pos.ofNat 6,none)])
  (k0:comp T 62 false c0 = .region g32r0) (k1:comp T 62 false c1 = .region g32r1) (k2:comp T 62 false c2 = .seq (.region g32r2) (.block 0 (.loop g32l9))) (k8:comp T 62 false c8 = .region g32r16) (k9:comp T 62 false c9 = .region g32r17) (kr:comp T 62 false restC = .seq (.region g32r13) (.cond (.t (Pos.ofNat 52)) (.region g32r14) .skip))
  (kq:compOpers T 62 [q0,oR] [q0] = some [⟨some (Pos.ofNat 44),.move (.t (Pos.ofNat 2)),none⟩]) (hopsE:opsE.toList = oE :: lE)
  (kE:compOpers T 62 opsE.toList lE = some [⟨some (Pos.ofNat 49),.extract (.t (Pos.ofNat 48)) 0,none⟩,⟨some (Pos.ofNat 50),.extract (.t (Pos.ofNat 48)) 1,none⟩,⟨some (Pos.ofNat 12),.move (.t (Pos.ofNat 49)),none⟩,⟨some (Pos.ofNat 13),.move (.t (Pos.ofNat 50)),none⟩])
  {tm kt et:TypeId} (hR:oR.op = .range tm (.tmp 44)) (hRd:oR.dst = some 45) (hRg:oR.guard = none) (hRt:P.underlying tm = some (.map kt et)) (h1:o1.op = .next (.tmp 45) false) (h1d:o1.dst = some 46) (h1g:o1.guard = none) (h2:o2.op = .extract (.tmp 46) 0) (h2d:o2.dst = some 47) (h2g:o2.guard = none)
  (hE1:oE.op = .entry (.tmp 45)) (hEd:oE.dst = some 48) (hEg:oE.guard = none) (B:Nat) :SumOk P T B f sMerge:=by
 intro φ H w args args' vr H' hH hl h
 unfold sMerge at h
 split at h
 rotate_left
 ·cases h
 rename_i v x y
 split at h
 rotate_left
 ·cases h
 rename_i to ms hto hms
 split at h
 rotate_left
 ·cases h
 rename_i hnd hle
 have hnd:=nodupM_ok hnd
 have hle:to.length + ms.length≤100000000:=Nat.le_of_ble_eq_true hle
 have hca:Nat.add to.length ms.length = to.length + ms.length:=rfl
 rw [hca] at h
 generalize hcap:to.length + ms.length = cap at h hle
 simp only [AHeap.new,Option.some.injEq,Prod.mk.injEq] at h
 obtain ⟨rfl,rfl⟩:=h
 obtain ⟨t0,hsub,hrd⟩:=intsAt_part hto hms
 obtain ⟨hx,hy⟩:=hrd H.nx.toNat hH.dom
 have hH0:=hH.part2 hsub
 have hsound:=fun n=>sound hT (hE w.heap.size) hm n (P:=P) (T:=T)
 have hkl:(mergeZ v to ms).length≤cap:=by
  unfold mergeZ
  have g1:=compactZ_length (sortZ (oldM v ms to ++ newM ms))
  rw [sortZ_length,List.length_append] at g1
  have g2:=oldM_length v ms to
  have g3:=newM_length ms
  omega
 refine .inl (returns_part (t0:=t0) hH (by rw [List.all_append,flat_intVals,zeros_eq,flat_intVals]; rfl) (run_callFunc hf hname hb) (CallsIn.mono (ends_of_wp (R:=fun v' H'=>∃ pb,v' = .sl pb 0 (mergeZ v to ms).length (mergeZ v to ms).length 0∧PT.get pb H'.t = some (.cells (intVals (mergeZ v to ms) ++ zeros (Nat.sub cap (mergeZ v to ms).length)) false false)) hT hf hb hres ?_) fun e w' h=>h))
 rw [hnt]
 have hs0:St T w.heap.size 62 φ ⟨t0,H.nx⟩ w (fun t H1=>tget t (Pos.ofNat 0) = .int .i64 v∧tget t (Pos.ofNat 1) = x∧tget t (Pos.ofNat 2) = y∧H1 = ⟨t0,H.nx⟩) { tmps:=args' ++ Array.replicate (62 - args'.size) undef,defers:=[] } w :=
  ⟨tput (tput (tput .l (some (Pos.ofNat 0)) (.int .i64 v)) (some (Pos.ofNat 1)) x) (some (Pos.ofNat 2)) y,⟨t0,H.nx⟩,φ,⟨by simp only [tget_puts,Nat.reduceLT,Nat.reduceEqDiff,↓reduceIte],by simp only [tget_puts,Nat.reduceLT,Nat.reduceEqDiff,↓reduceIte],by simp only [tget_puts,Nat.reduceLT,Nat.reduceEqDiff,↓reduceIte],rfl⟩,Sim.refl hH0,act_start (args:=[.int .i64 v,x,y]) rfl hl (by decide)⟩
 have p0:=piece hsound k0 (ex:=.normal) (Q':=fun t H1=>tget t (Pos.ofNat 0) = .int .i64 v∧tget t (Pos.ofNat 1) = x∧tget t (Pos.ofNat 2) = y∧H1 = ⟨t0,H.nx⟩) (by
  rintro t H1 ⟨g0,g1,g2,g3⟩
  refine W.region ?_
  simp (maxDischargeDepth:=9) only [auW,auC,auT,lget,BEq.rfl,beq_self_eq_true,decide_true,decide_false,reduceCtorEq,Nat.reduceLT,Nat.reduceEqDiff,↓reduceIte,g32r0]
  exact ⟨by trivial,by trivial,by simp only [tget_puts,Nat.reduceLT,Nat.reduceEqDiff,↓reduceIte,g0],by simp only [tget_puts,Nat.reduceLT,Nat.reduceEqDiff,↓reduceIte,g1],by simp only [tget_puts,Nat.reduceLT,Nat.reduceEqDiff,↓reduceIte,g2],g3⟩) hs0
 refine wpIn_seq (wpIn_mono p0 ?_)
 rintro e a1 w1 ⟨rfl,hs1⟩
 simp only [exitOf,Exit.then]
 have p1:=piece hsound k1 (ex:=.normal) (Q':=fun t H1=>tget t (Pos.ofNat 0) = .int .i64 v∧tget t (Pos.ofNat 1) = x∧tget t (Pos.ofNat 2) = y∧tget t (Pos.ofNat 7) = .sl H.nx 0 0 cap 0∧H1 = (AHeap.new ⟨t0,H.nx⟩ (.cells (zeros cap) false false)).2) (by
  rintro t H1 ⟨g0,g1,g2,g3⟩
  subst g3
  refine W.region ?_
  have hadd:binOpA .add (.int .i64 (.ofNat to.length)) (.int .i64 (.ofNat ms.length)) = some (.int .i64 (.ofNat cap)):=by rw [← hcap]; exact b_add (by omega)
  simp (maxDischargeDepth:=9) only [auW,auC,auT,lget,BEq.rfl,beq_self_eq_true,decide_true,decide_false,reduceCtorEq,Nat.reduceLT,Nat.reduceEqDiff,↓reduceIte,g32r1,g1,g2,hx.fLen',intVals_length,hy.fLen,hadd]
  refine wo_mkSlice (n:=0) (c:=cap) (by simp only [auT,Nat.reduceLT,Nat.reduceEqDiff,↓reduceIte]; rfl) (by simp only [auT,Nat.reduceLT,Nat.reduceEqDiff,↓reduceIte]; rfl) (by omega) (by omega) (by omega) ?_
  simp (maxDischargeDepth:=9) only [auW,auC,auT,lget,BEq.rfl,beq_self_eq_true,decide_true,decide_false,reduceCtorEq,Nat.reduceLT,Nat.reduceEqDiff,↓reduceIte]
  exact ⟨by trivial,by trivial,by simp only [tget_puts,Nat.reduceLT,Nat.reduceEqDiff,↓reduceIte,g0],by simp only [tget_puts,Nat.reduceLT,Nat.reduceEqDiff,↓reduceIte,g1],by simp only [tget_puts,Nat.reduceLT,Nat.reduceEqDiff,↓reduceIte,g2],by simp only [tget_puts,Nat.reduceLT,Nat.reduceEqDiff,↓reduceIte],by rw [repl_zeros]⟩) hs1
 refine wpIn_seq (wpIn_mono p1 ?_)
 rintro e a2 w2 ⟨rfl,hs2⟩
 simp only [exitOf,Exit.then]
 have p2:=piece hsound k2 (ex:=.normal) (Q':=fun t H1=>tget t (Pos.ofNat 2) = y∧tget t (Pos.ofNat 7) = .sl H.nx 0 (oldM v ms to).length cap 0∧PT.get H.nx H1.t = some (.cells (intVals (oldM v ms to) ++ zeros (cap - (oldM v ms to).length)) false false)∧H.nx.toNat < H1.nx.toNat∧Keep H.nx.toNat ⟨t0,H.nx⟩ H1) (by
  rintro t H1 ⟨g0,g1,g2,g7,g3⟩
  refine W.seq (W.region ?_)
  have hk1:Keep H.nx.toNat ⟨t0,H.nx⟩ H1:=by rw [g3]; exact keep_new (H:=⟨t0,H.nx⟩)
  simp (maxDischargeDepth:=9) only [auW,auC,auT,lget,BEq.rfl,beq_self_eq_true,decide_true,decide_false,reduceCtorEq,Nat.reduceLT,Nat.reduceEqDiff,↓reduceIte,g32r2,g1,(hx.keep hk1 (Nat.le_refl _)).fLen',intVals_length]
  refine W.block (W.mono (merge_loop (N:=H.nx.toNat) (H0:=⟨t0,H.nx⟩) (v:=v) (cap:=cap) (b:=H.nx) hx hy hnd (by omega) (by omega) (Nat.le_refl _) to.length _ H1 ⟨0,by omega,?_,?_,?_,?_,?_,?_,?_,?_,hk1⟩) ?_)
  ·simp only [tget_puts,Nat.reduceLT,Nat.reduceEqDiff,↓reduceIte]
  ·simp only [tget_puts,Nat.reduceLT,Nat.reduceEqDiff,↓reduceIte]
  ·simp only [tget_puts,Nat.reduceLT,Nat.reduceEqDiff,↓reduceIte]
  ·simp only [tget_puts,Nat.reduceLT,Nat.reduceEqDiff,↓reduceIte,g2]
  ·simp only [tget_puts,Nat.reduceLT,Nat.reduceEqDiff,↓reduceIte,g0]
  ·simp only [tget_puts,Nat.reduceLT,Nat.reduceEqDiff,↓reduceIte,g7]
   rfl
  ·rw [g3]
   simp [oldM,intVals]
   exact get_new (H:=⟨t0,H.nx⟩)
  ·rw [g3,nx_new]; show H.nx.toNat < H.nx.toNat + 1; omega
  rintro e ⟨t',ds⟩ H2 ⟨rfl,hds,q2,q7,qb,ql,qk⟩
  have hds:ds = []:=hds
  subst hds
  exact ⟨by trivial,by trivial,q2,q7,qb,ql,qk⟩) hs2
 refine wpIn_seq (wpIn_mono p2 ?_)
 rintro e a3 w3 ⟨rfl,hs3⟩
 simp only [exitOf,Exit.then]
 have p3:=range_map hT (hE w.heap.size) hsound hopsE kr kq kE (tM:=44) (tR:=45) (tN:=46) (tB:=47) (tE:=48) hR hRd hRg hRt h1 h1d h1g h2 h2d h2g hE1 hEd hEg (by decide) (by decide) (by decide) (i0:=i3) (rn:=rn) (re:=re) (b0:=b0) (b1:=b1)
  (J:=fun mo pr ents t H1=>∃ (done:List Mrk),(∀ m,mo = some m→m.toNat < H1.nx.toNat)∧(done.map entM ++ ents).Perm (ms.map entM)∧tget t (Pos.ofNat 7) = .sl H.nx 0 (oldM v ms to ++ newM done).length cap 0∧PT.get H.nx H1.t = some (.cells (intVals (oldM v ms to ++ newM done) ++ zeros (cap - (oldM v ms to ++ newM done).length)) false false)∧H.nx.toNat < H1.nx.toNat∧pr.toNat < H1.nx.toNat) ?_ ?_ ?_ ?_ hs3
 rotate_left
 ·rintro t H1 ⟨g2,g7,gb,gl,gk⟩
  have hy1:=hy.keep gk (Nat.le_refl _)
  have hne:H.nx ≠ H1.nx:=fun e=>by rw [e] at gl; exact Nat.lt_irrefl _ gl
  refine ⟨_,by simp only [qops,quiet,AOpnd.ev]; rfl,?_⟩
  rcases hy1 with ⟨rfl,rfl⟩ | ⟨m,rfl,hent,hml⟩
  ·refine .inl ⟨by simp only [tget_puts,Nat.reduceLT,Nat.reduceEqDiff,↓reduceIte,g2],fun ob=>⟨[],fun m e=>(by cases e),by simp,by simp only [tget_puts,Nat.reduceLT,Nat.reduceEqDiff,↓reduceIte,g7]; simp [newM],?_,?_,?_⟩⟩
   ·rw [get_new_other hne]
    simpa [newM] using gb
   ·show H.nx.toNat < H1.nx.succ.toNat; rw [Pos.toNat_succ]; omega
   ·show H1.nx.toNat < H1.nx.succ.toNat; rw [Pos.toNat_succ]; omega
  ·have hmne:m ≠ H.nx:=fun e=>by rw [e] at hml; exact Nat.lt_irrefl _ hml
   refine .inr ⟨m,ms.map entM,by simp only [tget_puts,Nat.reduceLT,Nat.reduceEqDiff,↓reduceIte,g2],hent,fun ob1 ob2=>⟨[],fun m' e=>?_,by simp,by simp only [tget_puts,Nat.reduceLT,Nat.reduceEqDiff,↓reduceIte,g7]; simp [newM],?_,?_,?_⟩⟩
   ·cases e
    show m.toNat < H1.nx.succ.toNat; rw [Pos.toNat_succ]; omega
   ·rw [get_new_other (H:=H1.upd m (.raw ob1)) hne,get_upd_other hmne]
    simpa [newM] using gb
   ·show H.nx.toNat < H1.nx.succ.toNat; rw [Pos.toNat_succ]; omega
   ·show H1.nx.toNat < H1.nx.succ.toNat; rw [Pos.toNat_succ]; omega
 ·rintro mo pr l1 l2 t H1 ⟨done,j1,j2,j3⟩ hp
  exact ⟨done,j1,((hp.symm.append_left _)).trans j2,j3⟩
 ·rintro mo pr l t H1 ob1 ob2 ⟨done,j1,j2,j3,j4,j5⟩ hpr
  exact ⟨done,j1,j2,j3,get_upd_raw j4 (by simp) hpr,j5⟩
 ·rintro m pr k u l t H1 ⟨done,j1,j2,j3,j4,j5,j6⟩ h45 hpr hmr
  obtain ⟨yy,hyy,hye⟩:=List.mem_map.1 (j2.mem_iff.1 (show (k,u) ∈ done.map entM ++ (k,u) :: l by simp))
  have hke:k = (entM yy).1:=by rw [hye]
  have hve:u = (entM yy).2:=by rw [hye]
  subst hke hve
  have hlt:(oldM v ms to ++ newM done).length < cap:=by
   have:=j2.length_eq
   simp at this
   have:=newM_length done
   have:=oldM_length v ms to
   rw [List.length_append]
   omega
  obtain ⟨t2,H2,ho,hw⟩:=merge_round (E:=E) (cap:=cap) (y:=yy) j3 j4 j5 hlt h45 hpr hmr j6 (j1 m rfl)
  refine ⟨t2,H2,ho,W.mono hw ?_⟩
  rintro e aa H3 ⟨rfl,hds,⟨q1,q2,q3,q4⟩,q5,q6,q7⟩
  have hns:oldM v ms to ++ newM (done ++ [yy]) = oldM v ms to ++ newM done ++ (match yy.2 with | true=>[] | false=>[yy.1]):=by
   rw [newM_snoc,List.append_assoc]
   try (obtain ⟨u,g⟩:=yy; cases g <;> rfl)
  refine ⟨rfl,hds,⟨done ++ [yy],fun m' e=>?_,by simpa using j2,by rw [hns]; exact q1,by rw [hns]; exact q2,q3,by omega⟩,q5,q6,q7⟩
  have:=j1 m' e
  omega
 refine wpIn_seq (wpIn_mono p3 ?_)
 rintro e a4 w4 ⟨rfl,hs4⟩
 simp only [exitOf,Exit.then]
 have p8:=piece hsound k8 (ex:=.normal) (Q':=fun t H1=>∃ n,tget t (Pos.ofNat 7) = .sl H.nx 0 n cap 0∧n = (oldM v ms to ++ newM ms).length∧PT.get H.nx H1.t = some (.cells (intVals (sortZ (oldM v ms to ++ newM ms)) ++ zeros (cap - n)) false false)) (by
  rintro t H1 ⟨mo,pr,t1,⟨done,j1,j2,j3,j4,j5,j6⟩,rfl⟩
  have hperm:done.Perm ms:=by
   have hj:(done.map entM).Perm (ms.map entM):=by simpa using j2
   have:∀ l:List Mrk,(l.map entM).map (fun p=>match p with | (.int _ a,.bool g)=>((a,g) :Mrk) | _=>(0,false)) = l:=by
    intro l
    rw [List.map_map]
    conv=>rhs; rw [← List.map_id l]
    exact List.map_congr_left fun x _=>rfl
   have h2:=hj.map (fun p=>match p with | (.int _ a,.bool g)=>((a,g) :Mrk) | _=>(0,false))
   rw [this,this] at h2
   exact h2
  have hpl:(oldM v ms to ++ newM done).Perm (oldM v ms to ++ newM ms):=(newM_perm hperm).append_left _
  have hsame:sortZ (oldM v ms to ++ newM done) = sortZ (oldM v ms to ++ newM ms) :=
   sorted_one (((sortZ_perm _).trans hpl).trans (sortZ_perm _).symm) (sortZ_sorted _) (sortZ_sorted _)
  have hll:=hpl.length_eq
  generalize hL:oldM v ms to ++ newM done = L at *
  have hcapL:L.length≤cap:=by
   rw [← hL,List.length_append]
   have:=newM_length done
   have:=oldM_length v ms to
   have:=hperm.length_eq
   omega
  have hcall:CallS E 78 [.sl H.nx 0 L.length cap 0] H1 (.tup []) (H1.upd H.nx (.cells (intVals (sortZ L) ++ zeros (cap - L.length)) false false)):=by
   refine CallS.sum (by decide) hsort ?_
   have e1:lsub (intVals L ++ zeros (cap - L.length)) 0 L.length = some (intVals L):=by
    rw [lsub_of (by simp [intVals_length])]
    congr 1
    rw [← intVals_length L]
    simp
   have e2:Nat.ble L.length 1000000000 = true:=ble_t (by omega)
   have e3:List.drop L.length (intVals L ++ zeros (cap - L.length)) = zeros (cap - L.length):=by
    rw [← intVals_length L]
    simp
   simp only [sSortZ,beq_t,j4,e1,intsOf_vals,e2,e3]
  refine W.region ?_
  simp (maxDischargeDepth:=9) only [auW,auC,auT,lget,BEq.rfl,beq_self_eq_true,decide_true,decide_false,reduceCtorEq,Nat.reduceLT,Nat.reduceEqDiff,↓reduceIte,g32r16,j3]
  refine wo_callE (hcall) (by simp only [auT,Nat.reduceLT,Nat.reduceEqDiff,↓reduceIte]) ?_
  simp (maxDischargeDepth:=9) only [auW,auC,auT,lget,BEq.rfl,beq_self_eq_true,decide_true,decide_false,reduceCtorEq,Nat.reduceLT,Nat.reduceEqDiff,↓reduceIte]
  exact ⟨by trivial,by trivial,L.length,by simp only [tget_puts,Nat.reduceLT,Nat.reduceEqDiff,↓reduceIte,j3],hll,by rw [← hsame]; exact get_upd⟩) hs4
 refine wpIn_seq (wpIn_mono p8 ?_)
 rintro e a5 w5 ⟨rfl,hs5⟩
 simp only [exitOf,Exit.then]
 have p9:=piece hsound k9 (ex:=.normal) (Q':=fun t H1=>tget t (Pos.ofNat 6) = .sl H.nx 0 (mergeZ v to ms).length (mergeZ v to ms).length 0∧PT.get H.nx H1.t = some (.cells (intVals (mergeZ v to ms) ++ zeros (cap - (mergeZ v to ms).length)) false false)) (by
  rintro t H1 ⟨n,g7,hn,gb⟩
  have hmz:mergeZ v to ms = compactZ (sortZ (oldM v ms to ++ newM ms)):=rfl
  have hncap:n≤cap:=by
   rw [hn,List.length_append]
   have:=newM_length ms
   have:=oldM_length v ms to
   omega
  generalize hL:oldM v ms to ++ newM ms = L at *
  have hsl:(sortZ L).length = n:=by rw [sortZ_length,hn]
  have hcl:=compactZ_length (sortZ L)
  have hcall:CallS E 80 [.sl H.nx 0 n cap 0] H1 (.sl H.nx 0 (mergeZ v to ms).length cap 0) (H1.upd H.nx (.cells (intVals (mergeZ v to ms) ++ zeros (cap - (mergeZ v to ms).length)) false false)):=by
   refine CallS.sum (by decide) hcomp ?_
   have e1:lsub (intVals (sortZ L) ++ zeros (cap - n)) 0 n = some (intVals (sortZ L)):=by
    rw [lsub_of (by simp [intVals_length,hsl])]
    congr 1
    have:=intVals_length (sortZ L)
    rw [hsl] at this
    conv=>lhs; rw [← this]
    simp
   have e2:Nat.ble n 1000000000 = true:=ble_t (by omega)
   have e4:Nat.ble n cap = true:=ble_t hncap
   have e3:List.drop n (intVals (sortZ L) ++ zeros (cap - n)) = zeros (cap - n):=by
    have:=intVals_length (sortZ L)
    rw [hsl] at this
    conv=>lhs; rw [← this]
    simp [this]
   simp only [sCompactZ,beq_t,gb,e1,intsOf_vals,e2,e4,e3,← hmz,List.append_assoc,zeros_add]
   rw [show Nat.sub n (mergeZ v to ms).length + (cap - n) = cap - (mergeZ v to ms).length by show n - _ + _ = _; rw [hmz]; omega]
  have hclip:=clip_ok C (H:=H1.upd H.nx (.cells (intVals (mergeZ v to ms) ++ zeros (cap - (mergeZ v to ms).length)) false false)) (b:=H.nx) hkl
  refine W.region ?_
  simp (maxDischargeDepth:=9) only [auW,auC,auT,lget,BEq.rfl,beq_self_eq_true,decide_true,decide_false,reduceCtorEq,Nat.reduceLT,Nat.reduceEqDiff,↓reduceIte,g32r17,g7]
  refine wo_callE (hcall) (by simp only [auT,Nat.reduceLT,Nat.reduceEqDiff,↓reduceIte]) ?_
  refine wo_callE (hclip) (by simp only [auT,Nat.reduceLT,Nat.reduceEqDiff,↓reduceIte]) ?_
  simp (maxDischargeDepth:=9) only [auW,auC,auT,lget,BEq.rfl,beq_self_eq_true,decide_true,decide_false,reduceCtorEq,Nat.reduceLT,Nat.reduceEqDiff,↓reduceIte]
  exact ⟨by trivial,by trivial,by simp only [tget_puts,Nat.reduceLT,Nat.reduceEqDiff,↓reduceIte],get_upd⟩) hs5
 refine wpIn_seq (wpIn_mono p9 ?_)
 rintro e a6 w6 ⟨rfl,hs6⟩
 simp only [exitOf,Exit.then]
 refine wpIn_ret ⟨.inr rfl,hs6.mono ?_⟩
 rintro t H1 ⟨g6,gb⟩
 exact ⟨[.sl H.nx 0 (mergeZ v to ms).length (mergeZ v to ms).length 0],by simp [resultA,g6],H.nx,rfl,gb⟩
end
end Go.Am
end
