/- Part of the proof: AmSeat, AmSame, AmSeat2, AmSeat3, AmExt, AmExt2, AmExt3. -/
import Derived.Test.YtaogphcjlkeakaaGreatDoorAm15
import Derived.Laws.Externs
import Derived.Lib.Bytealg
set_option linter.unusedSimpArgs false
set_option linter.unusedVariables false
section
namespace Go.Am
open Go Go.RowKit
theorem tysOf_get {t:Nat} (ht:t < 2 ^ 31) :∀ (l:List TypeInfo) (n:Nat) (tr:PT TypeInfo),n + l.length≤2 ^ 31 →
  PT.get (Pos.ofNat t) (tysOf l n tr) = if n≤t∧t < n + l.length then l[t - n]? else PT.get (Pos.ofNat t) tr
 | [],n,tr,_=>by
  rw [if_neg (by simp only [List.length_nil]; omega)]; rfl
 | i :: l,n,tr,h=>by
  simp only [List.length_cons] at h
  simp only [tysOf]
  rw [tysOf_get ht l (n + 1) _ (by omega)]
  simp only [List.length_cons]
  by_cases h1:n + 1≤t∧t < n + 1 + l.length
  ·rw [if_pos h1,if_pos (by omega)]
   obtain ⟨k,hk⟩ :∃ k,t - n = k + 1:=⟨t - n - 1,by omega⟩
   rw [hk,List.getElem?_cons_succ]
   congr 1
   omega
  ·rw [if_neg h1]
   by_cases h2:t = n
   ·subst h2
    rw [PT.get_set_same,if_pos (by omega)]
    simp
   ·rw [PT.get_set_other _ _ _ _ (fun e=>h2 (Pos.ofNat_inj (by omega) ht e).symm),if_neg (by omega)]
theorem TOk.of_list {P:Program} {ng:Nat} {cmps:List TypeId} (hlen:P.types.size≤2 ^ 31) (hinfo:∀ t i,P.types[t]? = some i→P.info? t = some i) :TOk ⟨tysOf P.types.toList 0 .l,ng,cmps⟩ P:=by
 refine ⟨fun t i h=>hinfo t i ?_⟩
 unfold Tys.get at h
 split at h
 ·rename_i ht
  have ht:t < 2 ^ 31:=by simpa [Nat.blt_eq] using ht
  rw [tysOf_get ht _ _ _ (by simpa using hlen)] at h
  split at h
  ·simpa using h
  ·have:PT.get (Pos.ofNat t) (PT.l:PT TypeInfo) = none:=by cases Pos.ofNat t <;> rfl
   rw [this] at h; cases h
 ·cases h
def putFns (T:Tys) :List (Nat × Func)→PT AFun→PT AFun
 | [],t=>t
 | (n,f) :: l,t=>putFns T l (PT.set (Pos.ofNat n) (compFun T f) t)
def putAll {α:Type} :List (Nat × α)→PT α→PT α
 | [],t=>t
 | (n,s) :: l,t=>putAll l (PT.set (Pos.ofNat n) (some s) t)
theorem get_nil {α:Type} (p:Pos) :PT.get p (.l:PT α) = none:=by cases p <;> rfl
theorem putFns_get {T:Tys} {f:Nat} (hf:f < 2 ^ 31) {fi:AFun} :∀ {l:List (Nat × Func)} {t:PT AFun},(∀ p ∈ l,p.1 < 2 ^ 31)→PT.get (Pos.ofNat f) (putFns T l t) = some fi →
  (∃ p ∈ l,p.1 = f∧compFun T p.2 = some fi)∨PT.get (Pos.ofNat f) t = some fi
 | [],t,_,h=>.inr h
 | (n,g) :: l,t,hl,h=>by
  simp only [putFns] at h
  rcases putFns_get hf (fun p hp=>hl p (List.mem_cons_of_mem _ hp)) h with ⟨p,hp,h1⟩ | h
  ·exact .inl ⟨p,List.mem_cons_of_mem _ hp,h1⟩
  ·by_cases e:n = f
   ·subst e
    rw [PT.get_set_same] at h
    exact .inl ⟨(n,g),by simp,rfl,h⟩
   ·rw [PT.get_set_other _ _ _ _ (fun h'=>e (Pos.ofNat_inj (hl (n,g) (by simp)) hf h'))] at h
    exact .inr h
theorem putAll_get {α:Type} {f:Nat} (hf:f < 2 ^ 31) {s:α} :∀ {l:List (Nat × α)} {t:PT α},(∀ p ∈ l,p.1 < 2 ^ 31)→PT.get (Pos.ofNat f) (putAll l t) = some s →
  (∃ p ∈ l,p.1 = f∧p.2 = s)∨PT.get (Pos.ofNat f) t = some s
 | [],t,_,h=>.inr h
 | (n,g) :: l,t,hl,h=>by
  simp only [putAll] at h
  rcases putAll_get hf (fun p hp=>hl p (List.mem_cons_of_mem _ hp)) h with ⟨p,hp,h1⟩ | h
  ·exact .inl ⟨p,List.mem_cons_of_mem _ hp,h1⟩
  ·by_cases e:n = f
   ·subst e
    rw [PT.get_set_same] at h
    exact .inl ⟨(n,g),by simp,rfl,Option.some.inj h⟩
   ·rw [PT.get_set_other _ _ _ _ (fun h'=>e (Pos.ofNat_inj (hl (n,g) (by simp)) hf h'))] at h
    exact .inr h
def SumOk (P:Program) (T:Tys) (B:Nat) (f:FuncId) (s:List AVal→AHeap→ARes) :Prop :=
 ∀ φ H w args args' v H',HRel T B φ H w→LRel φ args args'.toList→s args H = some (v,H')→CallOk P T B φ H w f args' v H'
def DsumOk (P:Program) (T:Tys) (B:Nat) (f:FuncId) (s:List AVal→AHeap→Option AHeap) :Prop :=
 ∀ φ H w args args' H',HRel T B φ H w→LRel φ args args'.toList→s args H = some H' →
  (callFunc f args').run P w = .ok (.enter f args') w∧CallsDIn Fence.wide 0 P f args' .returning w fun e u w'=>(∃ v,e = .returned v)∧u = .returning∧∃ φ',Sim T B φ H w φ' H' w'
theorem EnvOk.of_lists {P:Program} {T:Tys} {B:Nat} {fs:List (Nat × Func)} {ss:List (Nat × (List AVal→AHeap→ARes))} {dd:List (Nat × (List AVal→AHeap→Option AHeap))}
  (h1:∀ p ∈ fs,p.1 < 2 ^ 31∧P.funcs[p.1]? = some p.2∧(p.2.name == "runtime.NumGoroutine") = false) (h2:∀ p ∈ ss,p.1 < 2 ^ 31∧SumOk P T B p.1 p.2) (h3:∀ p ∈ dd,p.1 < 2 ^ 31∧DsumOk P T B p.1 p.2) :
  EnvOk P T B ⟨putFns T fs .l,putAll ss .l,putAll dd .l⟩:=by
 refine ⟨fun f fi hf h=>?_,fun f s hf h=>?_,fun f s hf h=>?_⟩
 ·rcases putFns_get hf (fun p hp=>(h1 p hp).1) h with ⟨p,hp,rfl,hc⟩ | h
  ·exact ⟨p.2,(h1 p hp).2.1,(h1 p hp).2.2,hc⟩
  ·rw [get_nil] at h; cases h
 ·rcases putAll_get hf (fun p hp=>(h2 p hp).1) h with ⟨p,hp,rfl,rfl⟩ | h
  ·exact (h2 p hp).2
  ·rw [get_nil] at h; cases h
 ·rcases putAll_get hf (fun p hp=>(h3 p hp).1) h with ⟨p,hp,rfl,rfl⟩ | h
  ·exact (h3 p hp).2
  ·rw [get_nil] at h; cases h
theorem SumOk.of_one {P:Program} {T:Tys} {B:Nat} {E:Env} {n:Nat} {f:FuncId} {args0:List AVal} {H0 H1:AHeap} {v0:AVal} (hT:TOk2 T P) (hE:EnvOk P T B E) (hm:P.follows .mixedOrders = true) (h:callF E (ev E n) f args0 H0 = some (v0,H1))
  {s:List AVal→AHeap→ARes} (hs:∀ args H v H',s args H = some (v,H')→args = args0∧H = H0∧v = v0∧H' = H1) :SumOk P T B f s:=by
 intro φ H w args args' v H' hH hl hc
 obtain ⟨rfl,rfl,rfl,rfl⟩:=hs _ _ _ _ hc
 exact .inl (runA_ok hT hE hm hH hl h)
end Go.Am
end

section
namespace Go.Am
mutual
def eqvV:AVal→AVal→Bool
 | .any,.any=>true
 | .func f a b,.func g c d=>Nat.beq f g && (eqvL a c && eqvL b d)
 | .iface t v,.iface u w=>Nat.beq t u && eqvV v w
 | .agg l,.agg m=>eqvL l m
 | .tup l,.tup m=>eqvL l m
 | a,b=>same a b
def eqvL:List AVal→List AVal→Bool
 | [],[]=>true
 | a :: l,b :: m=>eqvV a b && eqvL l m
 | _,_=>false
end
def eqvP:List (AVal × AVal)→List (AVal × AVal)→Bool
 | [],[]=>true
 | (a,b) :: l,(c,d) :: m=>eqvV a c && (eqvV b d && eqvP l m)
 | _,_=>false
def eqvO:AObj→AObj→Bool
 | .cells l a b,.cells m c d=>(a == c) && ((b == d) && eqvL l m)
 | .map l,.map m=>eqvP l m
 | .dfr a,.dfr b=>a == b
 | _,_=>false
def eqvOO:Option AObj→Option AObj→Bool
 | none,none=>true
 | some a,some b=>eqvO a b
 | _,_=>false
def eqvT:PT AObj→PT AObj→Bool
 | .l,.l=>true
 | .n a v b,.n c w d=>eqvOO v w && (eqvT a c && eqvT b d)
 | _,_=>false
def eqvH (h k:AHeap) :Bool:=Pos.beq h.nx k.nx && eqvT h.t k.t
mutual
theorem eqvV_eq:∀ (a b:AVal),eqvV a b = true→a = b
 | .any,b,h=>by cases b <;> first | rfl | (simp [eqvV,same] at h; done)
 | .func f x y,b,h=>by
  cases b <;> first
   | (simp [eqvV,same] at h; done)
   | skip
  simp only [eqvV,Bool.and_eq_true] at h
  rw [Nat.eq_of_beq_eq_true h.1,eqvL_eq _ _ h.2.1,eqvL_eq _ _ h.2.2]
 | .iface t v,b,h=>by
  cases b <;> first
   | (simp [eqvV,same] at h; done)
   | skip
  simp only [eqvV,Bool.and_eq_true] at h
  rw [Nat.eq_of_beq_eq_true h.1,eqvV_eq _ _ h.2]
 | .agg l,b,h=>by
  cases b <;> first
   | (simp [eqvV,same] at h; done)
   | skip
  simp only [eqvV] at h
  rw [eqvL_eq _ _ h]
 | .tup l,b,h=>by
  cases b <;> first
   | (simp [eqvV,same] at h; done)
   | skip
  simp only [eqvV] at h
  rw [eqvL_eq _ _ h]
 | .bool x,b,h=>same_eq (by cases b <;> exact h)
 | .int k x,b,h=>same_eq (by cases b <;> exact h)
 | .str x,b,h=>same_eq (by cases b <;> exact h)
 | .pnil,b,h=>same_eq (by cases b <;> exact h)
 | .ptr x y,b,h=>same_eq (by cases b <;> exact h)
 | .snil,b,h=>same_eq (by cases b <;> exact h)
 | .sl x y z u v,b,h=>same_eq (by cases b <;> exact h)
 | .mnil,b,h=>same_eq (by cases b <;> exact h)
 | .map x,b,h=>same_eq (by cases b <;> exact h)
 | .fnil,b,h=>same_eq (by cases b <;> exact h)
 | .yld x,b,h=>same_eq (by cases b <;> exact h)
 | .inil,b,h=>same_eq (by cases b <;> exact h)
theorem eqvL_eq:∀ (a b:List AVal),eqvL a b = true→a = b
 | [],b,h=>by cases b <;> simp_all [eqvL]
 | x :: l,b,h=>by
  cases b with
  | nil=>simp [eqvL] at h
  | cons y m =>
   simp only [eqvL,Bool.and_eq_true] at h
   rw [eqvV_eq _ _ h.1,eqvL_eq _ _ h.2]
end
theorem eqvP_eq:∀ (a b:List (AVal × AVal)),eqvP a b = true→a = b
 | [],b,h=>by cases b <;> simp_all [eqvP]
 | (x,y) :: l,b,h=>by
  cases b with
  | nil=>simp [eqvP] at h
  | cons z m =>
   obtain ⟨z1,z2⟩:=z
   simp only [eqvP,Bool.and_eq_true] at h
   rw [eqvV_eq _ _ h.1,eqvV_eq _ _ h.2.1,eqvP_eq _ _ h.2.2]
theorem eqvO_eq (a b:AObj) (h:eqvO a b = true) :a = b:=by
 cases a <;> cases b <;> first
  | (simp [eqvO] at h; done)
  | skip
 ·simp only [eqvO,Bool.and_eq_true,beq_iff_eq] at h
  rw [h.1,h.2.1,eqvL_eq _ _ h.2.2]
 ·simp only [eqvO] at h
  rw [eqvP_eq _ _ h]
 ·simp only [eqvO,beq_iff_eq] at h
  rw [h]
theorem eqvT_eq:∀ (a b:PT AObj),eqvT a b = true→a = b
 | .l,b,h=>by cases b <;> simp_all [eqvT]
 | .n a v c,b,h=>by
  cases b with
  | l=>simp [eqvT] at h
  | n a' v' c' =>
   simp only [eqvT,Bool.and_eq_true] at h
   have hv:v = v':=by
    cases v <;> cases v' <;> first
     | rfl
     | (simp [eqvOO] at h; done)
     | skip
    rw [eqvO_eq _ _ h.1]
   rw [hv,eqvT_eq _ _ h.2.1,eqvT_eq _ _ h.2.2]
theorem eqvH_eq (h k:AHeap) (e:eqvH h k = true) :h = k:=by
 obtain ⟨ht,hn⟩:=h
 obtain ⟨kt,kn⟩:=k
 simp only [eqvH,Bool.and_eq_true] at e
 rw [Pos.beq_eq.1 e.1,eqvT_eq _ _ e.2]
end Go.Am
end

section
namespace Go.Am
open Go Go.RowKit
def zeroFits (i:TypeInfo) :Bool:=match i.zero with
 | some v=>Nat.beq v.cells.size i.size
 | none=>true
theorem TOk2.of_list {P:Program} {ng:Nat} {cmps:List TypeId} (hlen:P.types.size≤2 ^ 31) (hinfo:∀ t i,P.types[t]? = some i→P.info? t = some i) (hz:P.types.toList.all zeroFits = true) (hc:(cmps.all fun t=>!P.stoodInHeld t) = true) :
  TOk2 ⟨tysOf P.types.toList 0 .l,ng,cmps⟩ P:=by
 refine ⟨TOk.of_list hlen hinfo,fun t ht=>?_,fun t i v h hv=>?_⟩
 ·have:=List.all_eq_true.1 hc t (by simpa using ht)
  simpa using this
 ·unfold Tys.get at h
  split at h
  ·rename_i htt
   have htt:t < 2 ^ 31:=by simpa [Nat.blt_eq] using htt
   rw [tysOf_get htt _ _ _ (by simpa using hlen)] at h
   split at h
   ·have:=List.all_eq_true.1 hz i (List.mem_of_getElem? h)
    unfold zeroFits at this
    rw [hv] at this
    exact Nat.eq_of_beq_eq_true this
   ·rw [get_nil] at h; cases h
  ·cases h
end Go.Am
end

section
namespace Go.Am
open Go
theorem info_of_types {P:Program} (t:TypeId) (i:TypeInfo) (h:P.types[t]? = some i) :P.info? t = some i:=by
 have hlt:t < P.types.size:=by
  rcases Nat.lt_or_ge t P.types.size with h' | h'
  ·exact h'
  ·rw [Array.getElem?_eq_none h'] at h; cases h
 show (if t < P.types.size then P.types[t]? else _) = some i
 rw [if_pos hlt,h]
end Go.Am
end

section
namespace Go.Am
open Go Go.RowKit
def bstr (h:AHeap) :AVal→Option (List Nat)
 | .str s=>some s
 | .snil=>some []
 | .sl b o len _ _=>match hloadN h b o len with
  | some l=>match Am.bytesOf l with
   | some s=>match s.all fun n=>Nat.blt n 256 with
    | true=>some s
    | false=>none
   | none=>none
  | none=>none
 | _=>none
section
variable {P:Program} {T:Tys} {B:Nat} {φ:Emb} {H:AHeap} {w:World}
theorem run_loadBytes (c:Nat) :∀ (s:List Nat) (o:Nat) (acc:List Nat),(∀ j n,s[j]? = some n→w.cell? ⟨c,o + j,none⟩ = some (.int .u8 (n:Nat)))→(Extern.Bytes.loadBytes ⟨c,o,none⟩ s.length (strV acc)).run P w = .ok (strV (acc ++ s)) w
 | [],o,acc,_=>by simp [Extern.Bytes.loadBytes]
 | n :: s,o,acc,h=>by
  have h0:w.cell? ⟨c,o,none⟩ = some (.int .u8 (n:Nat)):=h 0 n rfl
  have hl:(load ⟨c,o,none⟩).run P w = .ok (.int .u8 (n:Nat)) w:=by simp [h0]
  have hp:(strV acc).push ((n:Int).toNat.toUInt8) = strV (acc ++ [n]):=by
   apply ByteArray.ext
   apply Array.ext'
   simp [strV,ByteArray.push]
  simp only [List.length_cons,Extern.Bytes.loadBytes,Sem.run_bind,hl,Result.andThen_ok,addr_add]
  rw [hp,run_loadBytes c s (o + 1) (acc ++ [n]) (fun j m hj=>by
   have:=h (j + 1) m (by simpa using hj)
   rw [show o + 1 + j = o + (j + 1) by omega]; exact this)]
  simp
theorem bstr_ok (hH:HRel T B φ H w) {x:AVal} {u:Value} (hu:VRel φ x u) {s:List Nat} (h:bstr H x = some s) :(Extern.Bytes.bytesOf u).run P w = .ok (strV s) w∧∀ n ∈ s,n < 256:=by
 unfold bstr at h
 split at h
 ·cases h
  obtain ⟨e,hlt⟩:=VRel.str_inv hu
  exact ⟨by simp [e,Extern.Bytes.bytesOf],hlt⟩
 ·cases h
  have e:u = .slice none 0 0:=hu
  exact ⟨by simp [e,Extern.Bytes.bytesOf]; rfl,by simp⟩
 ·rename_i b o len cap k
  split at h
  ·rename_i l hl
   split at h
   ·rename_i s' hs
    split at h
    ·rename_i hall
     cases h
     obtain ⟨y,a',cap',e1,e2,e3,e4,e5,_⟩:=sl_addr hu
     obtain ⟨us,g1,g2,g3,g4⟩:=hloadN_ok (P:=P) hH e1 hl
     have hus:=bytesOf_ok hs g2
     have hlen:s.length = len:=by rw [← g1,hus]; simp
     refine ⟨?_,bytesOf_lt hall⟩
     rw [e2]
     simp only [Extern.Bytes.bytesOf]
     rcases Nat.eq_zero_or_pos len with h0 | h0
     ·have:s = []:=List.length_eq_zero_iff.1 (by omega)
      subst this
      rw [h0]
      simp [Extern.Bytes.loadBytes]
      rfl
     ·have ha:a' = ⟨y.c,y.s + o,none⟩:=by
       rcases e5 with h | h
       ·exact h
       ·omega
      have:=run_loadBytes (P:=P) (w:=w) y.c s (y.s + o) [] (fun j n hj=>g3 j _ (by rw [hus]; simp [hj]))
      rw [hlen] at this
      rw [ha]
      rw [List.nil_append] at this
      exact this
    ·cases h
   ·cases h
  ·cases h
 ·cases h
end
end Go.Am
end

section
namespace Go.Am
open Go Go.RowKit
def cnt (c:Nat) :List Nat→Nat→Nat
 | [],n=>n
 | x :: l,n=>match Nat.beq x c with
  | true=>cnt c l (Nat.succ n)
  | false=>cnt c l n
def sCountString:List AVal→AHeap→ARes
 | [.str s,.int .u8 (.ofNat c)],h=>match Nat.blt c 256 with
  | true=>some (.int .i64 (.ofNat (cnt c s 0)),h)
  | false=>none
 | _,_=>none
theorem cnt_eq (c:Nat) (hc:c < 256) :∀ (s:List Nat) (n:Nat),(∀ x ∈ s,x < 256)→cnt c s n = n + (s.map UInt8.ofNat).count (UInt8.ofNat c)
 | [],n,_=>by simp [cnt]
 | x :: s,n,h=>by
  have hx:=h x (by simp)
  have ih:=fun n=>cnt_eq c hc s n fun y hy=>h y (List.mem_cons_of_mem _ hy)
  simp only [List.map_cons,List.count_cons,cnt]
  by_cases e:x = c
  ·subst e
   rw [Nat.beq_refl]
   simp only [ih]
   simp
   omega
  ·have h1:Nat.beq x c = false:=by
    cases hb:Nat.beq x c with
    | false=>rfl
    | true=>exact absurd (Nat.eq_of_beq_eq_true hb) e
   have h2:¬ ((UInt8.ofNat x == UInt8.ofNat c) = true):=fun h'=>e (ofNat_inj hx hc (by simpa using h'))
   rw [h1,if_neg h2]
   simp only [ih]
   omega
theorem sumOk_countString {P:Program} {T:Tys} {B:Nat} {f:FuncId} {fn:Func} (hf:P.funcs[f]? = some fn) (hname:(fn.name == "runtime.NumGoroutine") = false) (hb:fn.body.isNone = true) (hn:Extern.findNext fn = none)
  (he:Extern.find fn = some Extern.BytealgCount.count) :SumOk P T B f sCountString:=by
 intro φ H w args args' v H' hH hl h
 unfold sCountString at h
 split at h
 ·rename_i s c
  split at h
  ·rename_i hc
   have hc:c < 256:=by simpa [Nat.blt_eq] using hc
   cases h
   obtain ⟨u1,r1,e1,h1,u2,r2,e2,h2,e3⟩:=hl
   subst e2
   have e3:r2 = []:=e3
   subst e3
   obtain ⟨e4,hlt⟩:=VRel.str_inv h1
   have e5:u2 = .int .u8 (c:Nat):=h2
   have ha:args' = #[.string (strV s),.int .u8 (c:Nat)]:=by
    apply Array.ext'
    rw [e1,e4,e5]
   refine .inr ⟨.int .i64 (cnt c s 0:Nat),w,φ,?_,rfl,Sim.refl hH⟩
   rw [run_callFunc_extern hf hname hb hn he,ha]
   have hcount:(Extern.BytealgCount.count #[.string (strV s),.int .u8 (c:Nat)]).run P w = .ok (.int .i64 (cnt c s 0:Nat)) w:=by
    have hcc:((c:Int).toNat.toUInt8) = UInt8.ofNat c:=by simp [Nat.toUInt8]
    have h0:=cnt_eq c hc s 0 hlt
    rw [Go.Lib.run_countString,hcc,h0,Nat.zero_add]
    rfl
   rw [hcount]
   rfl
  ·cases h
 ·cases h
end Go.Am
end

section
namespace Go.Am
open Go Go.RowKit
def sMapsClone:List AVal→AHeap→ARes
 | [.iface t (.map m)],h=>match PT.get m h.t with
  | some (.map es)=>match h.new (.map es) with
   | (b,h')=>some (.iface t (.map b),h')
  | _=>none
 | _,_=>none
theorem sumOk_mapsClone {P:Program} {T:Tys} {B:Nat} {f:FuncId} {fn:Func} (hf:P.funcs[f]? = some fn) (hname:(fn.name == "runtime.NumGoroutine") = false) (hb:fn.body.isNone = true) (hn:Extern.findNext fn = none)
  (he:Extern.find fn = some Extern.MapsClone.clone) :SumOk P T B f sMapsClone:=by
 intro φ H w args args' v H' hH hl h
 unfold sMapsClone at h
 split at h
 ·rename_i t m
  split at h
  ·rename_i es hm
   cases h
   obtain ⟨u1,r1,e1,h1,e2⟩:=hl
   have e2:r1 = []:=e2
   subst e2
   obtain ⟨u,e3,y,hy,e4⟩:=h1
   have ha:args' = #[.iface t (.map (some y.c))]:=by
    apply Array.ext'
    rw [e1,e3,e4]
   obtain ⟨es',clock,g1,g2,g3⟩:=hH.obj m _ y hm hy
   have hS:=Sim.new hH (.map es) (.map es' clock) 0 ⟨es',clock,by show (w.heap.push _)[w.heap.size]? = _; simp,g2,hH.base⟩
   refine .inr ⟨.iface t (.map (some w.heap.size)),_,_,?_,⟨_,rfl,_,Emb.put_same _ _ _,rfl⟩,hS⟩
   rw [run_callFunc_extern hf hname hb hn he,ha]
   have hrun:(Extern.MapsClone.clone #[.iface t (.map (some y.c))]).run P w = .ok (.iface t (.map (some w.heap.size))) (w.alloc (.map es' clock)):=by
    change Sem.run P (do
     let .map entries clock ← getObj y.c | stuck "maps.clone: a map expected"
     pure (Value.iface t (.map (some (← newObj (.map entries clock))))) :Sem Value) w = _
    simp only [Sem.run_bind,run_getObj g1 (by simp),Result.andThen_ok,run_newObj_alloc,Sem.run_pure]
   rw [hrun]
   rfl
  ·cases h
 ·cases h
end Go.Am
end
