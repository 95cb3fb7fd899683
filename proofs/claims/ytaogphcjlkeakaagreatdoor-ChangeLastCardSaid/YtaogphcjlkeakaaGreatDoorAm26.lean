/- Part of the proof: AmWorld, AmWorld2. -/
import Derived.Test.YtaogphcjlkeakaaGreatDoorAm25
import Derived.ChangeSlices
set_option linter.unusedSimpArgs false
set_option linter.unusedVariables false
section
namespace Go.Am
open Go Go.RowKit Go.ChangeShapes Go.WideShapes
def posOf:Nat→Pos
 | 0=>.h
 | n + 1=>(posOf n).succ
theorem toNat_posOf:∀ n,(posOf n).toNat = n + 1
 | 0=>rfl
 | n + 1=>by simp only [posOf,Pos.toNat_succ,toNat_posOf n]
theorem posOf_eq {g:Nat} (hg:g < 2 ^ 31) :posOf g = Pos.ofNat g:=Pos.toNat_inj (by rw [toNat_posOf,Pos.toNat_ofNat hg])
def absS (size:Nat) (a:Addr) (len cap:Nat) :AVal :=
 if cap = 0 then (if len = 0∧0 < size then .sl (posOf 0) 0 0 0 0 else .any)
 else if a.spot = none∧a.block < size∧len≤cap then .sl (posOf a.block) a.off len cap 0 else .any
def absV (size:Nat) :Value→AVal
 | .bool b=>.bool b
 | .int k n=>.int k n
 | .string s=>.str (s.data.toList.map UInt8.toNat)
 | .slice none 0 0=>.snil
 | .slice (some a) len cap=>absS size a len cap
 | _=>.any
def absA (size:Nat) :Value→AVal
 | .agg xs=>.agg (xs.toList.map (absV size))
 | v=>absV size v
def absO (size:Nat) :Option Obj→Option AObj
 | some (.cells arr _ _)=>some (.cells (arr.toList.map (absV size)) false true)
 | _=>none
def absT (W:World) :Nat→PT AObj
 | 0=>.l
 | n + 1=>PT.set (posOf n) (absO W.heap.size W.heap[n]?) (absT W n)
def absH (W:World) :AHeap:=⟨absT W W.heap.size,posOf W.heap.size⟩
theorem absH_nx (W:World) :(absH W).nx.toNat = W.heap.size + 1:=toNat_posOf _
theorem absT_get (W:World) :∀ (n:Nat) (p:Pos),PT.get p (absT W n) = if p.toNat≤n then absO W.heap.size W.heap[p.toNat - 1]? else none
 | 0,p=>by
  have:=Pos.toNat_pos p
  rw [if_neg (by omega)]
  exact get_nil p
 | n + 1,p=>by
  have hp:=Pos.toNat_pos p
  by_cases h:posOf n = p
  ·subst h
   simp only [absT]
   rw [PT.get_set_same,toNat_posOf,if_pos (Nat.le_refl _)]
   simp
  ·simp only [absT]
   rw [PT.get_set_other _ _ _ _ h,absT_get W n p]
   have hne:p.toNat ≠ n + 1:=fun e=>h (Pos.toNat_inj (by rw [toNat_posOf,e]))
   by_cases h2:p.toNat≤n
   ·rw [if_pos h2,if_pos (by omega)]
   ·rw [if_neg h2,if_neg (by omega)]
theorem absH_get {W:World} {b:Nat} {arr:Array Value} {e:TypeId} {fz:Nat × Nat} (h:W.heap[b]? = some (.cells arr e fz)) :PT.get (posOf b) (absH W).t = some (.cells (arr.toList.map (absV W.heap.size)) false true):=by
 show PT.get (posOf b) (absT W W.heap.size) = _
 have:=(Array.getElem?_eq_some_iff.1 h).1
 rw [absT_get,toNat_posOf,if_pos (by omega)]
 simp only [Nat.add_sub_cancel,h,absO]
def absE (W:World) :Emb:=globEmb W W.heap.size
theorem absE_some {W:World} {p:Pos} {x:Place} (h:absE W p = some x) :p.toNat≤W.heap.size∧x.c = p.toNat - 1∧x.s = 0∧x.k = (match W.heap[p.toNat - 1]? with | some (.cells arr _ _)=>arr.size | _=>0):=by
 unfold absE globEmb at h
 split at h
 ·rename_i hb
  cases h
  exact ⟨Nat.le_of_ble_eq_true hb,rfl,rfl,rfl⟩
 ·cases h
theorem absE_of {W:World} {b:Nat} (h:b < W.heap.size) :∃ k,absE W (posOf b) = some ⟨b,0,k⟩:=by
 unfold absE globEmb
 rw [toNat_posOf,Nat.ble_eq_true_of_le (show b + 1≤W.heap.size by omega)]
 exact ⟨_,rfl⟩
theorem vrel_str {φ:Emb} (s:ByteArray) :VRel φ (.str (s.data.toList.map UInt8.toNat)) (.string s):=by
 have h:=vrel_nums (φ:=φ) s.data.toList
 have e:(⟨s.data.toList.toArray⟩ :ByteArray) = s:=by cases s; simp
 rw [e] at h
 exact h
theorem absS_rel (W:World) (a:Addr) (len cap:Nat) :VRel (absE W) (absS W.heap.size a len cap) (.slice (some a) len cap):=by
 unfold absS
 split
 ·rename_i h0
  split
  ·rename_i h
   obtain ⟨k,hk⟩:=absE_of h.2
   exact ⟨_,a,0,hk,by rw [h0,h.1],Nat.le_refl _,Nat.le_refl _,.inl ⟨rfl,rfl,.inr rfl⟩⟩
  ·trivial
 ·split
  ·rename_i h
   obtain ⟨k,hk⟩:=absE_of h.2.1
   refine ⟨_,a,cap,hk,rfl,h.2.2,Nat.le_refl _,.inl ⟨rfl,rfl,.inl ?_⟩⟩
   obtain ⟨b,off,spot⟩:=a
   have:spot = none:=h.1
   subst this
   simp
  ·trivial
theorem absV_rel (W:World) (v:Value) :VRel (absE W) (absV W.heap.size v) v:=by
 unfold absV
 split
 ·rfl
 ·rfl
 ·exact vrel_str _
 ·rfl
 ·exact absS_rel W _ _ _
 ·trivial
theorem absL_rel (W:World) :∀ (l:List Value),LRel (absE W) (l.map (absV W.heap.size)) l
 | []=>rfl
 | v :: l=>⟨v,l,rfl,absV_rel W v,absL_rel W l⟩
theorem absA_rel (W:World) (v:Value) :VRel (absE W) (absA W.heap.size v) v:=by
 unfold absA
 split
 ·rename_i xs; exact ⟨xs,rfl,absL_rel W xs.toList⟩
 ·exact absV_rel W v
theorem absAs_rel (W:World) :∀ (l:List Value),LRel (absE W) (l.map (absA W.heap.size)) l
 | []=>rfl
 | v :: l=>⟨v,l,rfl,absA_rel W v,absAs_rel W l⟩
theorem HRel.world {T:Tys} {W:World} (hng:T.ng≤W.heap.size) (h31:T.ng < 2 ^ 31) :HRel T W.heap.size (absE W) (absH W) W:=by
 have hto:∀ g,g < 2 ^ 31→(Pos.ofNat g).toNat = g + 1:=fun g hg=>Pos.toNat_ofNat hg
 refine ⟨fun p o x hp hx=>?_,fun p q x y hpq _ _ hx hy=>?_,fun p x hx=>?_,fun p hp=>?_,Nat.le_refl _,fun g hg=>?_⟩
 ·obtain ⟨h1,h2,h3,h4⟩:=absE_some hx
  have hp:PT.get p (absT W W.heap.size) = some o:=hp
  rw [absT_get,if_pos h1] at hp
  cases hb:W.heap[p.toNat - 1]? with
  | none=>rw [hb] at hp; simp [absO] at hp
  | some ob =>
   rw [hb] at hp h4
   cases ob with
   | cells arr e fz =>
    simp only [absO,Option.some.injEq] at hp
    subst hp
    obtain ⟨lo,hi⟩:=fz
    refine ⟨arr,e,lo,hi,by rw [h2]; exact hb,h4.symm,by rw [h3,h4]; simp,fun i a hi=>?_,.inr (.inr rfl),fun _ h=>(by cases h),fun h=>(by cases h)⟩
    rw [List.getElem?_map] at hi
    cases hv:arr.toList[i]? with
    | none=>rw [hv] at hi; cases hi
    | some v =>
     rw [hv] at hi
     cases hi
     exact ⟨v,by rw [h3]; simpa using hv,absV_rel W v⟩
   | _=>simp [absO] at hp
 ·obtain ⟨a1,b1,_⟩:=absE_some hx
  obtain ⟨a2,b2,_⟩:=absE_some hy
  intro e
  have hp1:=Pos.toNat_pos p
  have hq1:=Pos.toNat_pos q
  exact hpq (Pos.toNat_inj (by omega))
 ·obtain ⟨a1,b1,_⟩:=absE_some hx
  have hp1:=Pos.toNat_pos p
  refine ⟨?_,by omega⟩
  show _ < (posOf W.heap.size).toNat
  rw [toNat_posOf]; omega
 ·show _ < (posOf W.heap.size).toNat
  rw [toNat_posOf]
  have hp:PT.get p (absT W W.heap.size) ≠ none:=hp
  rw [absT_get] at hp
  by_cases h:p.toNat≤W.heap.size
  ·omega
  ·rw [if_neg h] at hp; exact absurd rfl hp
 ·have:Pos.ofNat g = posOf g:=Pos.toNat_inj (by rw [hto g (by omega),toNat_posOf])
  rw [this]
  exact absE_of (by omega)
theorem absH_row {W:World} {b off:Nat} {arr:Array Value} {e:TypeId} {fz:Nat × Nat} (hc:W.heap[b]? = some (.cells arr e fz)) {l:List AVal} (h:∀ i (hi:i < l.length),∃ v,arr[off + i]? = some v∧absV W.heap.size v = l[i]) (hoff:off + l.length≤arr.size) :hloadN (absH W) (posOf b) off l.length = some l:=by
 unfold hloadN
 rw [absH_get hc]
 simp only
 rw [lsub_of (by simpa using hoff)]
 congr 1
 refine List.ext_getElem? fun i=>?_
 by_cases hi:i < l.length
 ·obtain ⟨v,h1,h2⟩:=h i hi
  rw [List.getElem?_take,if_pos hi,List.getElem?_drop,List.getElem?_map,List.getElem?_eq_getElem hi]
  have h1':arr.toList[off + i]? = some v:=by simpa using h1
  rw [h1',Option.map_some,h2]
 ·rw [List.getElem?_take,if_neg hi,List.getElem?_eq_none (by omega)]
theorem absH_slice {W:World} {a:Addr} {len cap:Nat} {l:List AVal} (hl:l.length = len) (hlc:len≤cap) (h0:∃ arr e fz,W.heap[0]? = some (.cells arr e fz)) (hcell:∀ i,i < cap→∃ v,W.cell? (a.add i) = some v) (hval:∀ i (hi:i < l.length),∃ v,W.cell? (a.add i) = some v∧absV W.heap.size v = l[i]) :
  ∃ b o cap',absS W.heap.size a len cap = .sl b o l.length cap' 0∧hloadN (absH W) b o l.length = some l∧b.toNat < (absH W).nx.toNat∧l.length≤cap':=by
 by_cases hc:cap = 0
 ·subst hc
  obtain ⟨arr,e,fz,h0⟩:=h0
  have hl0:l = []:=List.length_eq_zero_iff.1 (by omega)
  subst hl0
  have hlt:=(Array.getElem?_eq_some_iff.1 h0).1
  refine ⟨posOf 0,0,0,?_,?_,?_,Nat.le_refl _⟩
  ·unfold absS
   rw [if_pos rfl,if_pos ⟨by simpa using hl.symm,by omega⟩]
   rfl
  ·exact absH_row h0 (fun i hi=>by simp at hi) (by simp)
  ·rw [absH_nx,toNat_posOf]; omega
 ·obtain ⟨v0,hv0⟩:=hcell 0 (by omega)
  obtain ⟨b,off,spot⟩:=a
  have hspot:spot = none:=by simpa [Addr.add] using World.cell?_spot hv0
  subst hspot
  obtain ⟨arr,e,fz,hcb⟩ :∃ arr e fz,W.heap[b]? = some (.cells arr e fz):=by
   rw [add_plain] at hv0
   unfold World.cell? at hv0
   split at hv0
   ·rename_i c e' f' hb; exact ⟨c,e',f',hb⟩
   ·cases hv0
  have hlt:=(Array.getElem?_eq_some_iff.1 hcb).1
  have ck:∀ j v,W.cell? (Addr.add ⟨b,off,none⟩ j) = some v→arr[off + j]? = some v:=by
   intro j v hj
   rw [add_plain] at hj
   unfold World.cell? at hj
   simpa [hcb] using hj
  refine ⟨posOf b,off,cap,?_,?_,by rw [absH_nx,toNat_posOf]; omega,by omega⟩
  ·unfold absS
   rw [if_neg hc,if_pos ⟨rfl,hlt,hlc⟩,hl]
  ·refine absH_row hcb (fun i hi=>?_) ?_
   ·obtain ⟨v,h1,h2⟩:=hval i hi
    exact ⟨v,ck i v h1,h2⟩
   ·by_cases hl0:l.length = 0
    ·obtain ⟨v,hv⟩:=hcell 0 (by omega)
     have:=(Array.getElem?_eq_some_iff.1 (ck 0 v hv)).1
     omega
    ·obtain ⟨v,hv⟩:=hcell (l.length - 1) (by omega)
     have:=(Array.getElem?_eq_some_iff.1 (ck _ v hv)).1
     omega
theorem absH_reads {W:World} {a:Addr} {len cap:Nat} {l:List AVal} (hl:l.length = len) (hlc:len≤cap) (h0:∃ arr e fz,W.heap[0]? = some (.cells arr e fz)) (hcell:∀ i,i < cap→∃ v,W.cell? (a.add i) = some v) (hval:∀ i (hi:i < l.length),∃ v,W.cell? (a.add i) = some v∧absV W.heap.size v = l[i]) :
  Reads (absH W).nx.toNat (absH W) (absS W.heap.size a len cap) l:=by
 obtain ⟨b,o,cap',e1,e2,e3,e4⟩:=absH_slice hl hlc h0 hcell hval
 exact .inr ⟨b,o,cap',0,e1,e2,e3,.inl rfl,e4⟩
section
variable {Hh:Type} {enc:TypeId × Value→Hh} {P:Program} {W:World} {held:Bool}
theorem reads_ints {t e:TypeId} {k:IntKind} {fuel:Nat} {v:Value} {x:DataW Hh × List MemPlace} (ht:P.underlying t = some (.slice e)) (he:P.underlying e = some (.int k)) (hc:P.cellsOf e = 1) (h0:∃ arr e fz,W.heap[0]? = some (.cells arr e fz))
  (h:DataW.trod enc P W 0 (fun _=>true) held fuel t [v] = some x) :
  ∃ zs:List Int,Reads (absH W).nx.toNat (absH W) (absV W.heap.size v) (zs.map (.int k))∧(∀ z ∈ zs,(Lit.int k z).wf = true)∧(x.1 = .nil∧zs = []∨∃ sp,x.1 = .slice (lits k zs) sp):=by
 rcases open_ints ht he hc h with ⟨hcs,hx⟩ | ⟨a,len,cap,zs,hcs,_,hlc,hm,hz,hx,hcell,hwz⟩
 ·cases hcs
  exact ⟨[],.inl ⟨rfl,rfl⟩,by simp,.inl ⟨by rw [hx],rfl⟩⟩
 ·cases hcs
  simp only [if_true] at hz
  refine ⟨zs.take len,absH_reads (by simp; omega) hlc h0 (fun i hi=>⟨_,hcell i (by omega)⟩) (fun i hi=>⟨_,hcell i (by simp at hi; omega),?_⟩),fun z hz'=>hwz z (List.mem_of_mem_take hz'),.inr ⟨_,by rw [hx]⟩⟩
  simp only [List.length_map,List.length_take] at hi
  simp only [absV,List.getElem_map,List.getElem_take]
  rw [List.getD,List.getElem?_eq_getElem (by omega)]
  rfl
end
end Go.Am
end

section
namespace Go.Am
open Go Go.RowKit Go.ChangeShapes Go.WideShapes
section
variable {Hh:Type} {enc:TypeId × Value→Hh} {P:Program} {W:World} {held:Bool}
end
section
variable {Hh:Type} {enc:TypeId × Value→Hh} {P:Program} {W:World} {held:Bool}
end
noncomputable def sOracle (P:Program) (T:Tys) (B:Nat) (f:FuncId) (v:List AVal→AVal) :List AVal→AHeap→ARes:=fun args H =>
 open Classical in if (∀ φ w args',HRel T B φ H w→LRel φ args args'.toList→CallOk P T B φ H w f args' (v args) H) then some (v args,H) else none
theorem sumOk_oracle (P:Program) (T:Tys) (B:Nat) (f:FuncId) (v:List AVal→AVal) :SumOk P T B f (sOracle P T B f v):=by
 intro φ H w args args' u H' hH hl hs
 unfold sOracle at hs
 split at hs
 ·rename_i hc
  cases hs
  exact hc φ w args' hH hl
 ·cases hs
theorem oracle_ok {P:Program} {T:Tys} {B:Nat} {f:FuncId} {v:List AVal→AVal} {args:List AVal} {H:AHeap} (h:∀ φ w args',HRel T B φ H w→LRel φ args args'.toList→CallOk P T B φ H w f args' (v args) H) :sOracle P T B f v args H = some (v args,H):=by
 unfold sOracle
 rw [if_pos h]
def flatV:AVal→Bool
 | .bool _ | .int _ _ | .str _=>true
 | _=>false
theorem flat_rel {φ φ':Emb} {a:AVal} {v:Value} (h:flatV a = true) (r:VRel φ a v) :VRel φ' a v:=by
 cases a <;> first | exact r | cases h
theorem HRel.part {T:Tys} {B:Nat} {φ:Emb} {H H0:AHeap} {w:World} (h:HRel T B φ H w) (hsub:∀ p o,PT.get p H0.t = some o→PT.get p H.t = some o∧∃ l,o = .cells l false true∧l.all flatV = true) (hnx:H0.nx.toNat≤H.nx.toNat) (hdom:∀ p,PT.get p H0.t ≠ none→p.toNat < H0.nx.toNat) (hg:∀ g,g < T.ng→(Pos.ofNat g).toNat < H0.nx.toNat) :
  HRel T w.heap.size (fun p=>if p.toNat < H0.nx.toNat then φ p else none) H0 w:=by
 have hφ:∀ {p x},(fun p=>if p.toNat < H0.nx.toNat then φ p else none) p = some x→p.toNat < H0.nx.toNat∧φ p = some x:=by
  intro p x hx
  simp only at hx
  split at hx
  ·rename_i hlt; exact ⟨hlt,hx⟩
  ·cases hx
 refine ⟨fun p o x hp hx=>?_,fun p q x y hpq hp hq hx hy=>?_,fun p x hx=>?_,hdom,Nat.le_refl _,fun g hg'=>?_⟩
 ·obtain ⟨hlt,hx⟩:=hφ hx
  obtain ⟨hp',l,rfl,hfl⟩:=hsub p o hp
  obtain ⟨arr,e,lo,hi,h1,h2,h3,h4,h5,h6,h7⟩:=h.obj p _ x hp' hx
  refine ⟨arr,e,lo,hi,h1,h2,h3,fun i a hi=>?_,.inr (.inr rfl),fun _ h=>(by cases h),fun h=>(by cases h)⟩
  obtain ⟨v,e1,e2⟩:=h4 i a hi
  have ha:flatV a = true:=List.all_eq_true.1 hfl a (List.mem_of_getElem? hi)
  exact ⟨v,e1,flat_rel ha e2⟩
 ·obtain ⟨_,hx⟩:=hφ hx
  obtain ⟨_,hy⟩:=hφ hy
  refine h.inj p q x y hpq (fun e=>?_) (fun e=>?_) hx hy
  ·cases ho:PT.get p H0.t with
   | none=>exact hp ho
   | some o=>rw [(hsub p o ho).1] at e; cases e
  ·cases ho:PT.get q H0.t with
   | none=>exact hq ho
   | some o=>rw [(hsub q o ho).1] at e; cases e
 ·obtain ⟨h1,hx⟩:=hφ hx
  exact ⟨h1,(h.low p x hx).2⟩
 ·obtain ⟨k,hk⟩:=h.glob g hg'
  exact ⟨k,by simp only [hg g hg',if_true]; exact hk⟩
theorem putAll_inv:∀ (l:List (Nat × AObj)) (t:PT AObj) (p:Pos) (o:AObj),PT.get p (putAll l t) = some o→(∃ q ∈ l,p = Pos.ofNat q.1∧o = q.2)∨PT.get p t = some o
 | [],t,p,o,h=>.inr h
 | x :: l,t,p,o,h=>by
  simp only [putAll] at h
  rcases putAll_inv l _ p o h with ⟨q,hq,e⟩ | h
  ·exact .inl ⟨q,List.mem_cons_of_mem _ hq,e⟩
  ·by_cases e:Pos.ofNat x.1 = p
   ·subst e
    rw [PT.get_set_same] at h
    exact .inl ⟨x,by simp,rfl,(Option.some.inj h).symm⟩
   ·rw [PT.get_set_other _ _ _ _ e] at h
    exact .inr h
theorem flat_abs {n:Nat} {a:AVal} {v:Value} (h:flatV a = true) (r:∀ φ,VRel φ a v) :absV n v = a:=by
 replace r:=r fun _=>none
 cases a <;> first | cases h | skip
 ·have r:v = _:=r; subst r; rfl
 ·have r:v = _:=r; subst r; rfl
 ·rename_i s₀
  obtain ⟨rfl,hs⟩:=r
  simp only [absV]
  congr 1
  simp only [List.toList_toArray,List.map_map]
  conv=>rhs; rw [← List.map_id s₀]
  refine List.map_congr_left fun x hx=>?_
  have:=hs x hx
  simp only [Function.comp,UInt8.toNat_ofNat',id]
  omega
theorem flat_absL {n:Nat} :∀ {l:List AVal} {vs:List Value},l.all flatV = true→(∀ φ,LRel φ l vs)→vs.map (absV n) = l
 | [],vs,_,r=>by
  have:vs = []:=r fun _=>none
  rw [this]
  rfl
 | a :: l,vs,h,r=>by
  simp only [List.all_cons,Bool.and_eq_true] at h
  obtain ⟨v,ws,rfl,_,_⟩:=r fun _=>none
  have r1:∀ φ,VRel φ a v∧LRel φ l ws:=fun φ=>by
   obtain ⟨v',ws',e,h1,h2⟩:=r φ
   cases e
   exact ⟨h1,h2⟩
  simp only [List.map_cons,flat_abs h.1 (fun φ=>(r1 φ).1),flat_absL h.2 (fun φ=>(r1 φ).2)]
def tabH (ng:Nat) (objs:List (Nat × List AVal)) :AHeap:=⟨putAll (objs.map fun p=>(p.1,.cells p.2 false true)) .l,Pos.ofNat ng⟩
theorem closed_oracle {P:Program} {T:Tys} {B:Nat} {W:World} {f:FuncId} {objs:List (Nat × List AVal)} {v:AVal} {h1:AHeap} (hng:T.ng≤W.heap.size) (h31:T.ng < 2147483648) (hobj:∀ q ∈ objs,q.1 < T.ng∧Lies W q.1 q.2∧q.2.all flatV = true) (hv:flatV v = true)
  (hrun:∀ φ w,HRel T w.heap.size φ (tabH T.ng objs) w→Returns P T w.heap.size φ (tabH T.ng objs) w f #[] v h1) :∀ φ w (args':Array Value),HRel T B φ (absH W) w→LRel φ [] args'.toList→CallOk P T B φ (absH W) w f args' v (absH W):=by
 intro φ w args' hH hl
 have hto:∀ g,g < 2 ^ 31→(Pos.ofNat g).toNat = g + 1:=fun g hg=>Pos.toNat_ofNat hg
 have ha:args' = #[]:=by
  have:args'.toList = []:=hl
  simpa using this
 subst ha
 have hinv:∀ p o,PT.get p (tabH T.ng objs).t = some o→∃ q ∈ objs,p = Pos.ofNat q.1∧o = .cells q.2 false true:=by
  intro p o h
  rcases putAll_inv _ _ p o h with ⟨q,hq,e1,e2⟩ | h
  ·obtain ⟨q',hq',rfl⟩:=List.mem_map.1 hq
   exact ⟨q',hq',e1,e2⟩
  ·rw [get_nil] at h; cases h
 have hH0:=hH.part (H0:=tabH T.ng objs) (fun p o h=>by
  obtain ⟨q,hq,rfl,rfl⟩:=hinv p o h
  obtain ⟨h1,⟨arr,e,fz,hb,hr⟩,h3⟩:=hobj q hq
  refine ⟨?_,_,rfl,h3⟩
  rw [← posOf_eq (by omega),absH_get hb,flat_absL h3 hr]) (by rw [absH_nx]; show (Pos.ofNat T.ng).toNat≤_; rw [hto _ h31]; omega) (fun p hp=>by
   cases hh:PT.get p (tabH T.ng objs).t with
   | none=>exact absurd hh hp
   | some o =>
    obtain ⟨q,hq,rfl,_⟩:=hinv p o hh
    have:=(hobj q hq).1
    show _ < (Pos.ofNat T.ng).toNat
    rw [hto _ h31,hto _ (by omega)]
    omega) (fun g hg=>by show _ < (Pos.ofNat T.ng).toNat; rw [hto _ h31,hto _ (by omega)]; omega)
 obtain ⟨g1,g2⟩:=hrun _ w hH0
 refine .inl ⟨g1,CallsIn.mono g2 ?_⟩
 rintro e w' ⟨u,φ',rfl,hvu,hS⟩
 exact ⟨u,φ,rfl,flat_rel hv hvu,Sim.grown hH hS.below⟩
theorem law_calls {P:Program} {T:Tys} {E:Env} {W:World} (hT:TOk2 T P) (hE:EnvOk P T W.heap.size E) (hm:P.follows .mixedOrders = true) (hng:T.ng≤W.heap.size) (h31:T.ng < 2147483648) {f:FuncId} (hf:PT.get (Pos.ofNat f) E.sums = none) {args:Array Value} {b:Bool} {H':AHeap} (h:CallS E f (args.toList.map (absA W.heap.size)) (absH W) (.bool b) H') :
  Calls P f args W fun e W'=>e = .returned (.bool b)∧Below W.heap.size W W':=by
 obtain ⟨n,h⟩:=h
 have h:=h n (Nat.le_refl _)
 unfold callA at h
 rw [hf] at h
 have h:callF E (ev E n) f (args.toList.map (absA W.heap.size)) (absH W) = some (.bool b,H'):=by
  cases hb:Nat.blt f 2147483648 <;> rw [hb] at h <;> exact h
 exact (runA_ok hT hE hm (HRel.world hng h31) (absAs_rel W args.toList) h).calls fun u φ' w' hv hS=>by
  have hv:u = .bool b:=hv
  subst hv
  exact ⟨rfl,hS.below⟩
end Go.Am
end
