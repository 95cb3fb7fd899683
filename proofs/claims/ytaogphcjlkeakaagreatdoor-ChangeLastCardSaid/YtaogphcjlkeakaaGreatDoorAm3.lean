/- Part of the proof: AmQuiet4, AmQuiet5, AmQuiet6, AmQuiet7, AmQuiet8. -/
import Derived.Test.YtaogphcjlkeakaaGreatDoorAm2
import Derived.Laws.BytesString
set_option linter.unusedSimpArgs false
set_option linter.unusedVariables false
section
namespace Go.Am
open Go Go.RowKit
section
variable {P:Program} {T:Tys} {B:Nat} {φ:Emb} {H:AHeap} {w:World} {nt:Nat} {t:PT AVal} {a:Act}
theorem bytesOf_ok:∀ {l:List AVal} {s:List Nat} {us:List Value},Am.bytesOf l = some s→LRel φ l us→us = s.map fun n=>Value.int .u8 (n:Nat)
 | [],s,us,h,hl=>by simp [Am.bytesOf] at h; subst h; exact hl
 | v :: l,s,us,h,hl=>by
  obtain ⟨u,us',rfl,h1,h2⟩:=hl
  unfold Am.bytesOf at h
  split at h
  ·rename_i e; cases e
  ·rename_i n l' e
   cases e
   split at h
   ·rename_i s' hs'
    cases h
    rw [bytesOf_ok hs' h2]
    simp only [List.map_cons]
    rw [VRel.int_inv h1]
    rfl
   ·cases h
  ·cases h
theorem bytesOf_lt {s:List Nat} (h:(s.all fun n=>Nat.blt n 256) = true) :∀ x ∈ s,x < 256:=by
 intro x hx
 have:=List.all_eq_true.1 h x hx
 simpa using this
theorem quiet_toInt (hT:TOk T P) (hH:HRel T B φ H w) (ht:TRel φ nt t a.tmps) {o:Oper} {s d:TypeId} {x:Operand} (ho:o.op = .convert s d x) {ax:AOpnd} (hx:opnd T x = some ax)
  {j k:IntKind} (hs:T.und s = some (.int j)) (hd:T.und d = some (.int k)) {v:AVal} (h:quiet t H (.conv (.toInt k) ax) = some v) :∃ u,(execOp a.eval o).run P w = .ok (.value u) w∧VRel φ v u:=by
 simp only [quiet] at h
 have hxv:=opnd_ok hH ht hx
 split at h
 ·rename_i q n e2
  cases h
  rw [e2] at hxv
  refine ⟨.int k (k.wrap n),by simp [execOp,ho,convert,hT.run_und hs,hT.run_und hd,VRel.int_inv hxv,Conv.intToInt],?_⟩
  rw [wrapI_eq]; rfl
 ·cases h
theorem quiet_same (hT:TOk T P) (hH:HRel T B φ H w) (ht:TRel φ nt t a.tmps) {o:Oper} {s d:TypeId} {x:Operand} (ho:o.op = .convert s d x) {ax:AOpnd} (hx:opnd T x = some ax)
  (hs:T.und s = some .string) (hd:T.und d = some .string) {v:AVal} (h:quiet t H (.conv .same ax) = some v) :∃ u,(execOp a.eval o).run P w = .ok (.value u) w∧VRel φ v u:=by
 simp only [quiet] at h
 have hxv:=opnd_ok hH ht hx
 split at h
 ·rename_i s' e2
  cases h
  rw [e2] at hxv
  obtain ⟨e3,h3⟩:=VRel.str_inv hxv
  exact ⟨.string (strV s'),by simp [execOp,ho,convert,hT.run_und hs,hT.run_und hd,e3],rfl,h3⟩
 ·cases h
theorem push_all:∀ (s acc:List Nat),(s.map fun (n:Nat)=>(n:Int)).foldl (fun (r:ByteArray) (n:Int)=>r.push (UInt8.ofNat n.toNat)) (strV acc) = strV (acc ++ s)
 | [],acc=>by simp
 | n :: s,acc=>by
  have hp:(strV acc).push (UInt8.ofNat (n:Int).toNat) = strV (acc ++ [n]):=by
   apply ByteArray.ext
   show Array.push _ _ = _
   simp [strV]
  rw [List.map_cons,List.foldl_cons,hp,push_all s (acc ++ [n])]
  simp
theorem quiet_bytesStr (hT:TOk T P) (hH:HRel T B φ H w) (ht:TRel φ nt t a.tmps) {o:Oper} {s d e:TypeId} {x:Operand} (ho:o.op = .convert s d x) {ax:AOpnd} (hx:opnd T x = some ax)
  (hs:T.und s = some (.slice e)) (hd:T.und d = some .string) (he:T.und e = some (.int .u8)) {v:AVal} (h:quiet t H (.conv .bytesStr ax) = some v) :∃ u,(execOp a.eval o).run P w = .ok (.value u) w∧VRel φ v u:=by
 simp only [quiet] at h
 have hxv:=opnd_ok hH ht hx
 split at h
 ·rename_i e2
  cases h
  rw [e2] at hxv
  have:a.eval x = .slice none 0 0:=hxv
  exact ⟨.string .empty,by simp [execOp,ho,convert,hT.run_und hs,hT.run_und hd,this,hT.run_und he,Conv.bytesToString],rfl,by simp⟩
 ·rename_i b off len cap z e2
  split at h
  ·rename_i l hl
   split at h
   ·rename_i s' hs'
    split at h
    ·rename_i hlt
     cases h
     rw [e2] at hxv
     obtain ⟨y,ad,cap',hy,e3,hc1,hc2,hc3⟩:=hxv
     obtain ⟨us,g1,g2,g3,g4⟩:=hloadN_ok (P:=P) hH hy hl
     have hus:=bytesOf_ok hs' g2
     have hlt':=bytesOf_lt hlt
     refine ⟨.string (strV s'),?_,rfl,hlt'⟩
     have hload:(loadCells ad len).run P w = .ok us.toArray w:=by
      have zero:len = 0→(loadCells ad len).run P w = .ok us.toArray w:=by
       intro h0
       subst h0
       have:us = []:=by simpa using g1
       subst this
       rfl
      rcases hc3 with ⟨_,_,h | h⟩ | ⟨_,h,_⟩ | ⟨_,h⟩
      ·rw [h]; exact g4
      ·exact zero (by omega)
      ·rw [h]; exact g4
      ·exact zero (by omega)
     have key:(Conv.bytesToString (.slice (some ad) len cap')).run P w = .ok (.string (strV s')) w:=by
      rw [run_bytesToString w ad len cap' (s'.map fun (n:Nat)=>(n:Int)) (by rw [hload,hus]; simp [Function.comp_def])]
      have:=push_all s' []
      simp only [List.nil_append] at this
      rw [← this]
      rfl
     simp only [execOp,ho,convert,Sem.run_bind,hT.run_und hs,hT.run_und hd,e3,Result.andThen_ok,hT.run_und he,key,Sem.run_pure]
    ·cases h
   ·cases h
  ·cases h
 ·cases h
theorem boundOf_ok (hH:HRel T B φ H w) (ht:TRel φ nt t a.tmps) {x:Option Operand} {ax:Option AOpnd} (hx:opndO T x = some ax) {dflt most n:Nat} (h:boundOf t ax dflt most = some n) :
  (ax = none∧x = none∧n = dflt)∨∃ k o ao,x = some o∧ax = some ao∧a.eval o = .int k (n:Nat)∧n≤most:=by
 cases x with
 | none=>simp [opndO] at hx; subst hx; simp [boundOf] at h; exact .inl ⟨rfl,rfl,h.symm⟩
 | some o =>
  simp only [opndO] at hx
  split at hx
  ·rename_i ao hao
   cases hx
   simp only [boundOf] at h
   split at h
   ·rename_i m hm
    split at h
    ·rename_i hle
     cases h
     obtain ⟨k,e⟩:=natOf_ok hm (opnd_ok hH ht hao)
     exact .inr ⟨k,o,ao,rfl,rfl,e,Nat.le_of_ble_eq_true hle⟩
    ·cases h
   ·cases h
  ·cases hx
theorem run_sliceBound {k:IntKind} {n y:Nat} {c:BoundsCode} (h:n≤y) :(Instr.sliceBound (.int k (n:Nat)) y c).run P w = .ok n w:=by
 simp [Instr.sliceBound,asIntOf,h]
theorem run_sliceBounds (hH:HRel T B φ H w) (ht:TRel φ nt t a.tmps) {lo hi mx:Option Operand} {al ah am:Option AOpnd} (hl:opndO T lo = some al) (hh:opndO T hi = some ah) (hm:opndO T mx = some am)
  {isS:Bool} {len cap m h l:Nat} (h1:boundOf t am cap cap = some m) (h2:boundOf t ah len m = some h) (h3:boundOf t al 0 h = some l) (hlm:am = none→ah = none→len≤cap) (hmh:am.isSome = true→ah.isSome = true) :
  (Instr.sliceBounds isS len cap (lo.map a.eval) (hi.map a.eval) (mx.map a.eval)).run P w = .ok (l,h,m) w∧(am = none→m = cap)∧m≤cap∧l≤h∧(ah ≠ none∨am = none→(ah = none→h = len)∧(ah ≠ none→h≤m)):=by
 rcases boundOf_ok hH ht hm h1 with ⟨rfl,rfl,rfl⟩ | ⟨k1,o1,a1,rfl,rfl,e1,g1⟩ <;> rcases boundOf_ok hH ht hh h2 with ⟨rfl,rfl,rfl⟩ | ⟨k2,o2,a2,rfl,rfl,e2,g2⟩ <;>
  rcases boundOf_ok hH ht hl h3 with ⟨rfl,rfl,rfl⟩ | ⟨k3,o3,a3,rfl,rfl,e3,g3⟩ <;>
  first
   | (simp at hmh; done)
   | (refine ⟨by simp [Instr.sliceBounds, *,run_sliceBound],by simp,by omega,by omega,by simp <;> omega⟩)
theorem quiet_sliceS (hT:TOk T P) (hH:HRel T B φ H w) (ht:TRel φ nt t a.tmps) {o:Oper} {ty e:TypeId} {x:Operand} {lo hi mx:Option Operand} (ho:o.op = .slice ty x lo hi mx) {ax:AOpnd} (hx:opnd T x = some ax)
  {al ah am:Option AOpnd} (hl:opndO T lo = some al) (hh:opndO T hi = some ah) (hm:opndO T mx = some am) (hmh:am.isSome = true→ah.isSome = true)
  {sz:Nat} (hs:T.und ty = some (.slice e)) (hn:T.size e = some sz) (hz:sz ≠ 0)
  {v:AVal} (h:quiet t H (.slice (.sl sz) ax al ah am) = some v) :∃ u,(execOp a.eval o).run P w = .ok (.value u) w∧VRel φ v u:=by
 simp only [quiet] at h
 have hxv:=opnd_ok hH ht hx
 generalize he:ax.ev t = xv at h hxv
 unfold sliceA at h
 split at h
 ·cases ‹ASlk.sl sz = ASlk.str›
 ·
  rename_i e1
  have hv:a.eval x = .slice none 0 0:=hxv
  split at h
  ·rename_i m h1
   split at h
   ·rename_i hh' h2
    split at h
    ·rename_i l h3
     cases h
     have hm0:m = 0:=by rcases boundOf_ok hH ht hm h1 with ⟨_,_,e⟩ | ⟨_,_,_,_,_,_,e⟩ <;> omega
     subst hm0
     have hh0:hh' = 0:=by rcases boundOf_ok hH ht hh h2 with ⟨_,_,e⟩ | ⟨_,_,_,_,_,_,e⟩ <;> omega
     subst hh0
     have hl0:l = 0:=by rcases boundOf_ok hH ht hl h3 with ⟨_,_,e⟩ | ⟨_,_,_,_,_,_,e⟩ <;> omega
     subst hl0
     obtain ⟨r1,_⟩:=run_sliceBounds (P:=P) hH ht hl hh hm (isS:=true) (len:=0) (cap:=0) h1 h2 h3 (fun _ _=>Nat.le_refl _) hmh
     exact ⟨.slice none 0 0,by simp [execOp,ho,Instr.sliceAt,hT.run_und hs,Instr.slice,hv,r1,hT.run_size hn],rfl⟩
    ·cases h
   ·cases h
  ·cases h
 ·
  rename_i sz' b off len cap e1
  cases e1
  obtain ⟨y,ad,cap',hy,e3,hc1,hc2,hc3⟩:=hxv
  have hc4:cap' = cap∧(ad = ⟨y.c,y.s + off,none⟩∨cap = 0):=by
   rcases hc3 with ⟨_,h,h'⟩ | ⟨h,_⟩ | ⟨h,_⟩
   ·exact ⟨h,h'⟩
   ·exact absurd rfl h
   ·exact absurd rfl h
  obtain ⟨rfl,hc5⟩:=hc4
  split at h
  ·rename_i m h1
   split at h
   ·rename_i hh' h2
    split at h
    ·rename_i l h3
     obtain ⟨r1,r2,r3,r4,r5⟩:=run_sliceBounds (P:=P) hH ht hl hh hm (isS:=true) h1 h2 h3 (fun _ _=>hc1) hmh
     have hhm:hh'≤m:=by
      rcases boundOf_ok hH ht hh h2 with ⟨q1,_,q2⟩ | ⟨_,_,_,_,_,_,q2⟩
      ·have:am = none:=by
        cases am with
        | none=>rfl
        | some z=>rw [q1] at hmh; simp at hmh
       have:=r2 this
       omega
      ·exact q2
     have hrun:(execOp a.eval o).run P w = .ok (.value (.slice (some (if m = l then ad else ad.add (l * sz))) (hh' - l) (m - l))) w:=by
      simp only [execOp,ho,Instr.sliceAt,Sem.run_bind,hT.run_und hs,Result.andThen_ok,Instr.slice,e3,r1,hT.run_size hn,Sem.run_pure]
      split <;> rfl
     split at h
     ·rename_i hml
      have hml':=Nat.eq_of_beq_eq_true hml
      cases h
      refine ⟨_,hrun,y,_,_,hy,rfl,?_,Nat.le_refl _,.inl ⟨rfl,rfl,.inr ?_⟩⟩
      ·show hh' - l≤m - l; omega
      ·show m - l = 0; omega
     ·rename_i hml
      have hml':m ≠ l:=fun e=>by rw [e,Nat.beq_refl] at hml; cases hml
      cases h
      refine ⟨_,hrun,y,_,_,hy,rfl,?_,Nat.le_refl _,.inl ⟨rfl,rfl,.inl ?_⟩⟩
      ·show hh' - l≤m - l; omega
      ·have had:ad = ⟨y.c,y.s + off,none⟩:=by
        rcases hc5 with h | h
        ·exact h
        ·omega
       rw [if_neg hml',had,addr_add]
       show (⟨_,_,_⟩ :Addr) = ⟨y.c,y.s + (off + l * sz),none⟩
       rw [Nat.add_assoc]
    ·cases h
   ·cases h
  ·cases h
 ·
  rename_i sz' b off len cap k e1
  cases e1
  split at h
  ·rename_i hk
   have hk':k + 1 = sz:=Nat.eq_of_beq_eq_true hk
   subst hk'
   obtain ⟨y,ad,cap',hy,e3,hc1,hc2,hc3⟩:=hxv
   have hc4:(ad = ⟨y.c,y.s + off,none⟩∧y.s + off + cap' * (k + 1)≤y.k∧cap'≤9223372036854775807)∨cap' = 0:=by
    rcases hc3 with ⟨h,_⟩ | ⟨_,h,h'⟩ | ⟨_,h⟩
    ·cases h
    ·exact .inl ⟨h,h'⟩
    ·exact .inr h
   split at h
   ·rename_i m h1
    split at h
    ·rename_i hh' h2
     split at h
     ·rename_i l h3
      split at h
      ·
       cases h
       have hmx:mx = none:=by
        cases mx with
        | none=>rfl
        | some z=>simp [opndO] at hm; split at hm <;> cases hm
       subst hmx
       have hmc:m = cap:=by simp [boundOf] at h1; exact h1.symm
       subst hmc
       have h2':boundOf t ah len cap' = some hh':=by
        unfold boundOf at h2 ⊢
        split at h2
        ·exact h2
        ·rename_i ao
         split at h2
         ·rename_i n1 hn1
          split at h2
          ·rename_i hle
           cases h2
           have:=Nat.le_of_ble_eq_true hle
           rw [Nat.ble_eq_true_of_le (Nat.le_trans this hc2)]
          ·cases h2
         ·cases h2
       have hhm:hh'≤m:=by
        rcases boundOf_ok hH ht hh h2 with ⟨_,_,q2⟩ | ⟨_,_,_,_,_,_,q2⟩
        ·omega
        ·exact q2
       obtain ⟨r1,r2,r3,r4,r5⟩:=run_sliceBounds (P:=P) hH ht hl hh hm (isS:=true) (len:=len) (cap:=cap') (m:=cap') rfl h2' h3 (fun _ _=>by omega) hmh
       have hrun:(execOp a.eval o).run P w = .ok (.value (.slice (some (if cap' = l then ad else ad.add (l * (k + 1)))) (hh' - l) (cap' - l))) w:=by
        simp only [execOp,ho,Instr.sliceAt,Sem.run_bind,hT.run_und hs,Result.andThen_ok,Instr.slice,e3,r1,hT.run_size hn,Sem.run_pure]
        split <;> rfl
       refine ⟨_,hrun,y,_,_,hy,rfl,?_,?_,?_⟩
       ·show hh' - l≤m - l; omega
       ·show m - l≤cap' - l; omega
       ·by_cases hcl:cap' = l
        ·exact .inr (.inr ⟨Nat.succ_ne_zero k,by omega⟩)
        ·rcases hc4 with ⟨q1,q2⟩ | q1
         ·refine .inr (.inl ⟨Nat.succ_ne_zero k,?_,?_⟩)
          ·rw [if_neg hcl,q1,addr_add]
           show (⟨_,_,_⟩ :Addr) = ⟨y.c,y.s + (off + l * (k + 1)),none⟩
           rw [Nat.add_assoc]
          ·show y.s + (off + l * (k + 1)) + (cap' - l) * (k + 1)≤y.k∧cap' - l≤9223372036854775807
           have:l * (k + 1) + (cap' - l) * (k + 1) = cap' * (k + 1):=by
            rw [← Nat.add_mul]; congr 1; omega
           omega
         ·omega
      ·
       rename_i z
       obtain ⟨q1,q2,q3⟩ :True∧m≤cap∧(∃ k o ao,mx = some o∧some z = some ao∧a.eval o = .int k (m:Nat)):=by
        rcases boundOf_ok hH ht hm h1 with ⟨q,_⟩ | ⟨k1,o1,a1,q1,q2,q3,q4⟩
        ·cases q
        ·exact ⟨trivial,q4,k1,o1,a1,q1,q2,q3⟩
       have h1':boundOf t (some z) cap' cap' = some m:=by
        unfold boundOf at h1 ⊢
        simp only at h1 ⊢
        split at h1
        ·rename_i n1 hn1
         split at h1
         ·rename_i hle
          cases h1
          have:=Nat.le_of_ble_eq_true hle
          rw [Nat.ble_eq_true_of_le (Nat.le_trans this hc2)]
         ·cases h1
        ·cases h1
       obtain ⟨r1,r2,r3,r4,r5⟩:=run_sliceBounds (P:=P) hH ht hl hh hm (isS:=true) (len:=len) (cap:=cap') h1' h2 h3 (fun q _=>by cases q) hmh
       have hhm:hh'≤m:=by
        rcases boundOf_ok hH ht hh h2 with ⟨p1,_,_⟩ | ⟨_,_,_,_,_,_,p2⟩
        ·rw [p1] at hmh; simp at hmh
        ·exact p2
       have hrun:(execOp a.eval o).run P w = .ok (.value (.slice (some (if m = l then ad else ad.add (l * (k + 1)))) (hh' - l) (m - l))) w:=by
        simp only [execOp,ho,Instr.sliceAt,Sem.run_bind,hT.run_und hs,Result.andThen_ok,Instr.slice,e3,r1,hT.run_size hn,Sem.run_pure]
        split <;> rfl
       split at h
       ·rename_i hml
        have hml':=Nat.eq_of_beq_eq_true hml
        cases h
        refine ⟨_,hrun,y,_,_,hy,rfl,?_,Nat.le_refl _,.inl ⟨rfl,rfl,.inr ?_⟩⟩
        ·show hh' - l≤m - l; omega
        ·show m - l = 0; omega
       ·rename_i hml
        have hml':m ≠ l:=fun e=>by rw [e,Nat.beq_refl] at hml; cases hml
        cases h
        refine ⟨_,hrun,y,_,_,hy,rfl,?_,Nat.le_refl _,.inl ⟨rfl,rfl,.inl ?_⟩⟩
        ·show hh' - l≤m - l; omega
        ·have had:ad = ⟨y.c,y.s + off,none⟩:=by
          rcases hc4 with ⟨h,_⟩ | h
          ·exact h
          ·omega
         rw [if_neg hml',had,addr_add]
         show (⟨_,_,_⟩ :Addr) = ⟨y.c,y.s + (off + l * (k + 1)),none⟩
         rw [Nat.add_assoc]
     ·cases h
    ·cases h
   ·cases h
  ·cases h
 ·cases ‹ASlk.sl sz = ASlk.arr _ _›
 ·cases h
end
end Go.Am
end

section
namespace Go.Am
open Go Go.RowKit
section
variable {P:Program} {T:Tys} {B:Nat} {φ:Emb} {H:AHeap} {w:World} {nt:Nat} {t:PT AVal} {a:Act}
theorem strV_extract (s:List Nat) (l h:Nat) (_hl:l≤h) :(strV s).extract l h = strV (subStr s l h):=by
 apply ByteArray.ext
 apply Array.ext'
 rw [ByteArray.data_extract,Array.toList_extract,List.extract_eq_take_drop]
 show _ = (((s.drop l).take (h - l)).map UInt8.ofNat)
 simp [strV,List.map_take,List.map_drop]
theorem quiet_sliceStr (hT:TOk T P) (hH:HRel T B φ H w) (ht:TRel φ nt t a.tmps) {o:Oper} {ty:TypeId} {x:Operand} {lo hi mx:Option Operand} (ho:o.op = .slice ty x lo hi mx) {ax:AOpnd} (hx:opnd T x = some ax)
  {al ah am:Option AOpnd} (hl:opndO T lo = some al) (hh:opndO T hi = some ah) (hm:opndO T mx = some am) (hs:T.und ty = some .string)
  {v:AVal} (h:quiet t H (.slice .str ax al ah am) = some v) :∃ u,(execOp a.eval o).run P w = .ok (.value u) w∧VRel φ v u:=by
 simp only [quiet] at h
 have hxv:=opnd_ok hH ht hx
 generalize he:ax.ev t = xv at h hxv
 unfold sliceA at h
 split at h
 ·rename_i s _
  split at h
  ·split at h
   ·rename_i hh' h2
    split at h
    ·rename_i l h3
     cases h
     have hmx:mx = none:=by
      cases mx with
      | none=>rfl
      | some z=>simp [opndO] at hm; split at hm <;> cases hm
     subst hmx
     obtain ⟨e3,hlt⟩:=VRel.str_inv hxv
     obtain ⟨r1,r2,r3,r4,r5⟩:=run_sliceBounds (P:=P) (mx:=none) (am:=none) hH ht hl hh rfl (isS:=false) (len:=s.length) (cap:=s.length) (m:=s.length) rfl h2 h3 (fun _ _=>Nat.le_refl _) (fun q=>by simp at q)
     refine ⟨.string (strV (subStr s l hh')),?_,rfl,?_⟩
     ·simp only [Option.map_none] at r1
      simp only [execOp,ho,Instr.sliceAt,Sem.run_bind,hT.run_und hs,Result.andThen_ok,Instr.slice,e3,Option.map_none,Option.isSome_none,Bool.false_eq_true,if_false,Sem.run_pure,strV_size,r1,strV_extract s l hh' r4]
     ·intro z hz
      exact hlt z (List.mem_of_mem_drop (List.mem_of_mem_take hz))
    ·cases h
   ·cases h
  ·cases h
 all_goals first | (cases h; done) | (cases ‹ASlk.str = ASlk.sl _›; done) | (cases ‹ASlk.str = ASlk.arr _ _›; done) | skip
theorem quiet_sliceA (hT:TOk T P) (hH:HRel T B φ H w) (ht:TRel φ nt t a.tmps) {o:Oper} {ty e:TypeId} {x:Operand} {lo hi mx:Option Operand} (ho:o.op = .slice ty x lo hi mx) {ax:AOpnd} (hx:opnd T x = some ax)
  {al ah am:Option AOpnd} (hl:opndO T lo = some al) (hh:opndO T hi = some ah) (hm:opndO T mx = some am) (hmh:am.isSome = true→ah.isSome = true)
  {n sz:Nat} (hs:T.und ty = some (.array n e)) (hn:T.size e = some sz)
  {v:AVal} (h:quiet t H (.slice (.arr n sz) ax al ah am) = some v) :∃ u,(execOp a.eval o).run P w = .ok (.value u) w∧VRel φ v u:=by
 simp only [quiet] at h
 have hxv:=opnd_ok hH ht hx
 generalize he:ax.ev t = xv at h hxv
 unfold sliceA at h
 split at h
 all_goals first | (cases h; done) | (cases ‹ASlk.arr _ _ = ASlk.sl _›; done) | (cases ‹ASlk.arr _ _ = ASlk.str›; done) | skip
 rename_i n' sz' b off e1
 cases e1
 obtain ⟨y,hy,e3⟩:=hxv
 split at h
 ·rename_i m h1
  split at h
  ·rename_i hh' h2
   split at h
   ·rename_i l h3
    obtain ⟨r1,r2,r3,r4,r5⟩:=run_sliceBounds (P:=P) hH ht hl hh hm (isS:=false) h1 h2 h3 (fun _ _=>Nat.le_refl _) hmh
    have hhm:hh'≤m:=by
     rcases boundOf_ok hH ht hh h2 with ⟨q1,_,q2⟩ | ⟨_,_,_,_,_,_,q2⟩
     ·have:am = none:=by
       cases am with
       | none=>rfl
       | some z=>rw [q1] at hmh; simp at hmh
      have:=r2 this
      omega
     ·exact q2
    have hrun:(execOp a.eval o).run P w = .ok (.value (.slice (some (if m = l then ⟨y.c,y.s + off,none⟩ else (⟨y.c,y.s + off,none⟩ :Addr).add (l * sz))) (hh' - l) (m - l))) w:=by
     simp only [execOp,ho,Instr.sliceAt,Sem.run_bind,hT.run_und hs,Result.andThen_ok,e3,Instr.sureAddr,r1,hT.run_size hn,Sem.run_pure]
    split at h
    ·rename_i hml
     have hml':=Nat.eq_of_beq_eq_true hml
     cases h
     refine ⟨_,hrun,y,_,_,hy,rfl,?_,Nat.le_refl _,.inl ⟨rfl,rfl,.inr ?_⟩⟩
     ·show hh' - l≤m - l; omega
     ·show m - l = 0; omega
    ·rename_i hml
     have hml':m ≠ l:=fun e=>by rw [e,Nat.beq_refl] at hml; cases hml
     cases h
     refine ⟨_,hrun,y,_,_,hy,rfl,?_,Nat.le_refl _,.inl ⟨rfl,rfl,.inl ?_⟩⟩
     ·show hh' - l≤m - l; omega
     ·rw [if_neg hml',addr_add]
      show (⟨_,_,_⟩ :Addr) = ⟨y.c,y.s + (off + l * sz),none⟩
      rw [Nat.add_assoc]
   ·cases h
  ·cases h
 ·cases h
theorem mapRel.length {es:List (AVal × AVal)} {es':Array MapEntry} {clock:Nat} (h:mapRel φ es es' clock) :es'.size = es.length:=by
 obtain ⟨⟨l,p1,p2,p3⟩,_⟩:=h
 have:=p1.length_eq
 have h2:=p2.length
 simp at h2 this
 omega
theorem quiet_len0 (hT:TOk T P) (hH:HRel T B φ H w) (ht:TRel φ nt t a.tmps) {x:Operand} {ax:AOpnd} (hx:opnd T x = some ax) {ty:TypeId} (hs:T.und ty = some .string) {v:AVal} (h:quiet t H (.len 0 ax) = some v)
  {ats:Array TypeId} (h0:ats[0]? = some ty) {ty2:TypeId} {xs:Array Value} (hx0:xs[0]? = some (a.eval x)) :∃ r,(Builtin.len_ ats ty2 xs).run P w = .ok r w∧VRel φ v r:=by
 simp only [quiet] at h
 have hxv:=opnd_ok hH ht hx
 split at h
 ·rename_i s e1
  cases h
  rw [e1] at hxv
  obtain ⟨e,_⟩:=VRel.str_inv hxv
  exact ⟨goInt s.length,by simp [Builtin.len_,h0,hx0,hT.run_und hs,e,strV_size],rfl⟩
 ·cases h
theorem quiet_len1 (hT:TOk T P) (hH:HRel T B φ H w) (ht:TRel φ nt t a.tmps) {x:Operand} {ax:AOpnd} (hx:opnd T x = some ax) {ty e0:TypeId} (hs:T.und ty = some (.slice e0)) {v:AVal} (h:quiet t H (.len 1 ax) = some v)
  {ats:Array TypeId} (h0:ats[0]? = some ty) {ty2:TypeId} {xs:Array Value} (hx0:xs[0]? = some (a.eval x)) :∃ r,(Builtin.len_ ats ty2 xs).run P w = .ok r w∧VRel φ v r:=by
 simp only [quiet] at h
 have hxv:=opnd_ok hH ht hx
 split at h
 ·rename_i e1
  cases h
  rw [e1] at hxv
  have e:a.eval x = .slice none 0 0:=hxv
  exact ⟨goInt 0,by simp [Builtin.len_,h0,hx0,hT.run_und hs,e],rfl⟩
 ·rename_i b o n c z e1
  cases h
  rw [e1] at hxv
  obtain ⟨y,ad,c,hy,e,_⟩:=hxv
  exact ⟨goInt n,by simp [Builtin.len_,h0,hx0,hT.run_und hs,e],rfl⟩
 ·cases h
theorem run_getObj {r:Nat} {o:Obj} (h:w.heap[r]? = some o) (hc:∀ c e f,o ≠ .cells c e f) :(getObj r).run P w = .ok o w:=by
 cases o <;> first
  | exact absurd rfl (hc _ _ _)
  | (simp only [getObj,Sem.run,h])
theorem entries_inv {o:Option AObj} {es:List (AVal × AVal)} (h:entries o = some es) :o = some (.map es)∨o = some (.rmap es):=by
 cases o with
 | none=>cases h
 | some o=>cases o <;> first | (cases h; done) | (cases h; first | exact .inl rfl | exact .inr rfl)
theorem entries_ok (hH:HRel T B φ H w) {b:Pos} {y:Place} (hy:φ b = some y) {es:List (AVal × AVal)} (h:entries (PT.get b H.t) = some es) :∃ es' clock,w.heap[y.c]? = some (.map es' clock)∧mapRel φ es es' clock:=by
 rcases entries_inv h with h | h
 ·obtain ⟨es',clock,g1,g2,_⟩:=hH.obj b _ y h hy
  exact ⟨es',clock,g1,g2⟩
 ·exact hH.obj b _ y h hy
theorem quiet_len2 (hT:TOk T P) (hH:HRel T B φ H w) (ht:TRel φ nt t a.tmps) {x:Operand} {ax:AOpnd} (hx:opnd T x = some ax) {ty k0 e0:TypeId} (hs:T.und ty = some (.map k0 e0)) {v:AVal} (h:quiet t H (.len 2 ax) = some v)
  {ats:Array TypeId} (h0:ats[0]? = some ty) {ty2:TypeId} {xs:Array Value} (hx0:xs[0]? = some (a.eval x)) :∃ r,(Builtin.len_ ats ty2 xs).run P w = .ok r w∧VRel φ v r:=by
 simp only [quiet] at h
 have hxv:=opnd_ok hH ht hx
 split at h
 ·rename_i e1
  cases h
  rw [e1] at hxv
  have e:a.eval x = .map none:=hxv
  exact ⟨goInt 0,by simp [Builtin.len_,h0,hx0,hT.run_und hs,e],rfl⟩
 ·rename_i b e1
  rw [e1] at hxv
  obtain ⟨y,hy,e⟩:=hxv
  split at h
  ·rename_i es hb
   cases h
   obtain ⟨es',clock,h1,h2⟩:=entries_ok hH hy hb
   refine ⟨goInt es.length,?_,rfl⟩
   simp [Builtin.len_,h0,hx0,hT.run_und hs,e,run_getObj h1 (by simp),h2.length]
  ·cases h
 ·cases h
theorem mmA_ok (isMax:Bool) :∀ {l:List AVal} {us:List Value} {x v:AVal} {u:Value},VRel φ x u→LRel φ l us→mmA isMax x l = some v →
  ∃ r,(us.foldlM (if isMax then Builtin.max2 else Builtin.min2) u:Sem Value).run P w = .ok r w∧VRel φ v r
 | [],us,x,v,u,hx,hl,h=>by
  simp only [mmA] at h
  cases h
  have:us = []:=hl
  subst this
  exact ⟨u,by simp,hx⟩
 | b :: l,us,x,v,u,hx,hl,h=>by
  obtain ⟨ub,us',rfl,h1,h2⟩:=hl
  unfold mmA at h
  split at h
  ·rename_i e; cases e
  ·rename_i k q j r l' e
   cases e
   split at h
   ·rename_i hk
    have hk':=kbeq_eq.1 hk
    subst hk'
    have hxu:u = .int k q:=hx
    have hbu:ub = .int k r:=h1
    subst hxu; subst hbu
    cases isMax
    ·simp only at h
     obtain ⟨z,g1,g2⟩:=mmA_ok false (u:=.int k (if r < q then r else q)) (by
      show _ = _
      congr 1
      rw [ltI_eq]
      by_cases hlt:r < q <;> simp [hlt]) h2 h
     exact ⟨z,by simpa [List.foldlM_cons,Builtin.min2] using g1,g2⟩
    ·simp only at h
     obtain ⟨z,g1,g2⟩:=mmA_ok true (u:=.int k (if r > q then r else q)) (by
      show _ = _
      congr 1
      rw [ltI_eq]
      by_cases hlt:q < r <;> simp [hlt]) h2 h
     exact ⟨z,by simpa [List.foldlM_cons,Builtin.max2] using g1,g2⟩
   ·cases h
  ·cases h
end
end Go.Am
end

section
namespace Go.Am
open Go Go.RowKit
inductive All2 {α β:Type} (R:α→β→Prop) :List α→List β→Prop
 | nil:All2 R [] []
 | cons {a:α} {b:β} {l:List α} {m:List β} (h:R a b) (t:All2 R l m) :All2 R (a :: l) (b :: m)
section
variable {P:Program} {T:Tys} {B:Nat} {φ:Emb} {H:AHeap} {w:World} {nt:Nat} {t:PT AVal} {a:Act}
theorem vcellsO_ok {x:AVal} {vs:List AVal} {u:Value} (h:vcellsO x = some vs) (hx:VRel φ x u) :LRel φ vs u.cells.toList:=by
 unfold vcellsO at h
 split at h
 ·cases h
  obtain ⟨ws,rfl,hl⟩:=hx
  exact hl
 ·cases h
 ·rename_i hna hnany
  cases h
  have:u.cells = #[u]:=by
   cases x <;> first
    | exact absurd rfl (hna _)
    | exact absurd rfl hnany
    | (simp only [VRel] at hx; first | (subst hx; rfl) | (obtain ⟨rfl,_⟩:=hx; rfl) | (obtain ⟨_,_,rfl⟩:=hx; rfl) | (obtain ⟨_,rfl,_⟩:=hx; rfl) | (obtain ⟨_,_,_,_,rfl,_⟩:=hx; rfl) | (obtain ⟨_,_,rfl,_⟩:=hx; rfl))
  rw [this]
  exact ⟨u,[],rfl,hx,rfl⟩
theorem vcells_const {v:Value} {z:AVal} (h:ofConst v = some z) :LRel φ (vcells z) v.cells.toList:=by
 refine vcellsO_ok (x:=z) ?_ (ofConst_ok h)
 unfold ofConst at h
 split at h
 ·split at h <;> cases h; rfl
 ·split at h <;> cases h; rfl
 ·split at h <;> cases h; rfl
 ·unfold cscal at h
  split at h <;> cases h <;> rfl
theorem set_all:∀ (vs:List Value) (off k:Nat) (arr:Array Value) (i:Nat),off + k + vs.length≤arr.size →
  ((vs.zipIdx k).foldl (fun (cs:Array Value) (p:Value × Nat)=>cs.setIfInBounds (off + p.2) p.1) arr)[i]? = (if off + k≤i∧i < off + k + vs.length then vs[i - (off + k)]? else arr[i]?) ∧
  ((vs.zipIdx k).foldl (fun (cs:Array Value) (p:Value × Nat)=>cs.setIfInBounds (off + p.2) p.1) arr).size = arr.size
 | [],off,k,arr,i,_=>by simp; omega
 | v :: vs,off,k,arr,i,h=>by
  simp only [List.length_cons] at h
  have ih:=set_all vs off (k + 1) (arr.setIfInBounds (off + k) v) i (by simp; omega)
  simp only [List.zipIdx_cons,List.foldl_cons]
  refine ⟨?_,by rw [ih.2]; simp⟩
  rw [ih.1]
  simp only [List.length_cons]
  by_cases h1:off + (k + 1)≤i∧i < off + (k + 1) + vs.length
  ·rw [if_pos h1,if_pos (by omega)]
   obtain ⟨m,hm⟩ :∃ m,i - (off + k) = m + 1:=⟨i - (off + k) - 1,by omega⟩
   rw [hm,List.getElem?_cons_succ]
   congr 1
   omega
  ·rw [if_neg h1]
   by_cases h0:i = off + k
   ·subst h0
    have:off + k < arr.size:=by omega
    rw [if_pos (by omega)]
    simp [this]
   ·rw [if_neg (by omega),Array.getElem?_setIfInBounds_ne (fun e=>h0 e.symm)]
theorem fill_ok {place:Nat→Option (Nat × Nat)} :∀ {ps:List (Nat × Value)} {aps:List (Nat × Nat × AOpnd)} {z l:List AVal} {cells:Array Value},
  LRel φ z cells.toList→(All2 (fun (p:Nat × Value) (q:Nat × Nat × AOpnd)=>place p.1 = some (q.1,q.2.1)∧VRel φ (q.2.2.ev t) p.2) ps aps)→fillA z t aps = some l →
  ∃ cells',Instr.fill place cells ps = some cells'∧LRel φ l cells'.toList
 | [],_,z,l,cells,hz,hp,h=>by
  cases hp
  simp [fillA] at h
  exact ⟨cells,rfl,h ▸ hz⟩
 | (i,v) :: ps,_,z,l,cells,hz,hp,h=>by
  cases hp with
  | cons h1 h2 =>
   rename_i q aps
   obtain ⟨off,size,x⟩:=q
   simp only [fillA] at h
   split at h
   ·rename_i vs hvs
    split at h
    ·rename_i hsz
     split at h
     ·rename_i z' hz'
      have hvl:=vcellsO_ok hvs h1.2
      have hlen:=hvl.length
      have hsz':=Nat.eq_of_beq_eq_true hsz
      have hzl:=hz.length
      obtain ⟨e1,e2⟩:=lput_eq _ _ _ _ hz'
      simp at hlen hzl
      have hs:=fun i=>set_all v.cells.toList off 0 cells i (by simp; omega)
      have hcond:(v.cells.size ≠ size || off + v.cells.size > cells.size) = false:=by
       simp
       constructor
       ·omega
       ·omega
      obtain ⟨cells',g1,g2⟩:=fill_ok (z:=z') (cells:=v.cells.zipIdx.foldl (fun cs (c,j)=>cs.setIfInBounds (off + j) c) cells) (by
       have conv:v.cells.zipIdx.foldl (fun (cs:Array Value) (p:Value × Nat)=>cs.setIfInBounds (off + p.2) p.1) cells = (v.cells.toList.zipIdx 0).foldl (fun (cs:Array Value) (p:Value × Nat)=>cs.setIfInBounds (off + p.2) p.1) cells:=by
        rw [← Array.foldl_toList,Array.toList_zipIdx]
       show LRel φ z' (v.cells.zipIdx.foldl (fun (cs:Array Value) (p:Value × Nat)=>cs.setIfInBounds (off + p.2) p.1) cells).toList
       rw [conv]
       apply LRel.of_get
       ·rw [Array.length_toList,(hs 0).2,lput_length hz']; omega
       ·intro i aa u ha hu
        rw [lput_get hz'] at ha
        have hu':((v.cells.toList.zipIdx 0).foldl (fun (cs:Array Value) (p:Value × Nat)=>cs.setIfInBounds (off + p.2) p.1) cells)[i]? = some u:=by simpa using hu
        rw [(hs i).1] at hu'
        simp only [Nat.add_zero,Array.length_toList] at hu'
        by_cases hi:off≤i∧i < off + vs.length
        ·rw [if_pos hi] at ha
         rw [if_pos (by omega)] at hu'
         obtain ⟨u2,k1,k2⟩:=hvl.get ha
         rw [k1] at hu'
         cases hu'
         exact k2
        ·rw [if_neg hi] at ha
         rw [if_neg (by omega)] at hu'
         obtain ⟨u2,k1,k2⟩:=hz.get ha
         have:cells[i]? = some u2:=by simpa using k1
         rw [this] at hu'
         cases hu'
         exact k2) h2 h
      refine ⟨cells',?_,g2⟩
      simp only [Instr.fill,h1.1,hcond,Bool.false_eq_true,if_false]
      exact g1
     ·cases h
    ·cases h
   ·cases h
theorem partsS_ok (hH:HRel T B φ H w) (ht:TRel φ nt t a.tmps) {fs:List Field} {place:Nat→Option (Nat × Nat)} (hp:∀ i f s,fs[i]? = some f→T.size f.type = some s→place i = some (f.offset,s)) :
  ∀ {ps:List (Nat × Operand)} {aps:List (Nat × Nat × AOpnd)},partsS T fs ps = some aps →
  All2 (fun (p:Nat × Value) (q:Nat × Nat × AOpnd)=>place p.1 = some (q.1,q.2.1)∧VRel φ (q.2.2.ev t) p.2) (ps.map fun p=>(p.1,a.eval p.2)) aps
 | [],aps,h=>by simp [partsS] at h; subst h; exact .nil
 | (i,x) :: ps,aps,h=>by
  simp only [partsS] at h
  split at h
  ·rename_i f hf
   split at h
   ·rename_i s b m e1 e2 e3
    cases h
    exact .cons ⟨hp i f s hf e1,opnd_ok hH ht e2⟩ (partsS_ok hH ht hp e3)
   ·cases h
  ·cases h
theorem partsA_ok (hH:HRel T B φ H w) (ht:TRel φ nt t a.tmps) {size:Nat} :
  ∀ {ps:List (Nat × Operand)} {aps:List (Nat × Nat × AOpnd)},partsA T size ps = some aps →
  All2 (fun (p:Nat × Value) (q:Nat × Nat × AOpnd)=>(fun i=>some (i * size,size)) p.1 = some (q.1,q.2.1)∧VRel φ (q.2.2.ev t) p.2) (ps.map fun p=>(p.1,a.eval p.2)) aps
 | [],aps,h=>by simp [partsA] at h; subst h; exact .nil
 | (i,x) :: ps,aps,h=>by
  simp only [partsA] at h
  split at h
  ·rename_i b m e2 e3
   cases h
   exact .cons ⟨rfl,opnd_ok hH ht e2⟩ (partsA_ok hH ht e3)
  ·cases h
theorem run_places (hT:TOk T P) :∀ (fs:List Field),(fs.all fun (f:Field)=>(T.size f.type).isSome) = true →
  (fs.mapM fun (f:Field)=>(do pure (f.offset,← sizeOf f.type) :Sem (Nat × Nat))).run P w = .ok (fs.map fun (f:Field)=>(f.offset,(T.size f.type).getD 0)) w
 | [],_=>by simp
 | f :: fs,h=>by
  simp only [List.all_cons,Bool.and_eq_true] at h
  obtain ⟨s,hs⟩:=Option.isSome_iff_exists.1 h.1
  have ih:=run_places hT fs h.2
  simp only [List.mapM_cons,Sem.run_bind,hT.run_size hs,Result.andThen_ok,Sem.run_pure,ih,List.map_cons,hs,Option.getD_some]
theorem quiet_buildS (hT:TOk T P) (hH:HRel T B φ H w) (ht:TRel φ nt t a.tmps) {o:Oper} {ty:TypeId} {ps:Array (Nat × Operand)} (ho:o.op = .build ty ps) {z:AVal} (hz:zeroOf T ty = some z)
  {fs:Array Field} (hs:T.und ty = some (.struct fs)) {aps:List (Nat × Nat × AOpnd)} (hp:partsS T fs.toList ps.toList = some aps) (hall:(fs.toList.all fun f=>(T.size f.type).isSome) = true)
  {v:AVal} (h:quiet t H (.build (vcells z) aps) = some v) :∃ u,(execOp a.eval o).run P w = .ok (.value u) w∧VRel φ v u:=by
 simp only [quiet] at h
 split at h
 ·rename_i l hl
  cases h
  obtain ⟨zv,e1,e2⟩:=hT.run_zero hz w
  have hpl:(fs.mapM fun (f:Field)=>(do pure (f.offset,← sizeOf f.type) :Sem (Nat × Nat))).run P w = .ok (fs.map fun (f:Field)=>(f.offset,(T.size f.type).getD 0)) w:=by
   rw [Array.mapM_eq_mapM_toList]
   simp only [Sem.run_map,run_places hT fs.toList hall,Result.andThen_ok]
   congr 1
   apply Array.ext'
   simp
  obtain ⟨cells',g1,g2⟩:=fill_ok (vcells_const e2) (partsS_ok (place:=fun i=>(fs.map fun (f:Field)=>(f.offset,(T.size f.type).getD 0))[i]?) hH ht (fun i f s hf hsz=>by
   have:fs[i]? = some f:=by simpa using hf
   simp [this,hsz]) hp) hl
  refine ⟨.agg cells',?_,cells',rfl,g2⟩
  have hlist:(ps.map fun (i,x)=>(i,a.eval x)).toList = ps.toList.map fun p=>(p.1,a.eval p.2):=by simp
  simp only [execOp,ho,Instr.build,Sem.run_bind,e1,Result.andThen_ok,hT.run_und hs,hpl,hlist,g1,Sem.run_pure]
 ·cases h
theorem quiet_buildA (hT:TOk T P) (hH:HRel T B φ H w) (ht:TRel φ nt t a.tmps) {o:Oper} {ty e:TypeId} {n s:Nat} {ps:Array (Nat × Operand)} (ho:o.op = .build ty ps) {z:AVal} (hz:zeroOf T ty = some z)
  (hs:T.und ty = some (.array n e)) (hsz:T.size e = some s) {aps:List (Nat × Nat × AOpnd)} (hp:partsA T s ps.toList = some aps)
  {v:AVal} (h:quiet t H (.build (vcells z) aps) = some v) :∃ u,(execOp a.eval o).run P w = .ok (.value u) w∧VRel φ v u:=by
 simp only [quiet] at h
 split at h
 ·rename_i l hl
  cases h
  obtain ⟨zv,e1,e2⟩:=hT.run_zero hz w
  obtain ⟨cells',g1,g2⟩:=fill_ok (place:=fun i=>some (i * s,s)) (vcells_const e2) (partsA_ok hH ht hp) hl
  refine ⟨.agg cells',?_,cells',rfl,g2⟩
  have hlist:(ps.map fun (i,x)=>(i,a.eval x)).toList = ps.toList.map fun p=>(p.1,a.eval p.2):=by simp
  simp only [execOp,ho,Instr.build,Sem.run_bind,e1,Result.andThen_ok,hT.run_und hs,hT.run_size hsz,hlist,g1,Sem.run_pure]
 ·cases h
end
end Go.Am
end

section
namespace Go.Am
open Go Go.RowKit
section
variable {P:Program} {T:Tys} {B:Nat} {φ:Emb} {H:AHeap} {w:World} {nt:Nat} {t:PT AVal} {a:Act}
def kindOk (T:Tys) (ty:TypeId) :EqK→Prop
 | .bool=>T.und ty = some .bool
 | .int=>∃ k,T.und ty = some (.int k)
 | .str=>T.und ty = some .string
 | .ptr=>∃ e n,T.und ty = some (.pointer e)∧T.size e = some (n + 1)
 | .sl=>∃ e,T.und ty = some (.slice e)
 | .map=>∃ k e,T.und ty = some (.map k e)
 | .func=>∃ p r v,T.und ty = some (.func p r v)
 | .iface=>∃ m,T.und ty = some (.interface m)
 | .pair=>False
theorem live_ok (hH:HRel T B φ H w) {b:Pos} {x:Place} (hx:φ b = some x) (h:live H b = true) :
  PT.get b H.t ≠ none∧(∃ arr e lo hi,w.heap[x.c]? = some (.cells arr e (lo,hi))∧hi≤lo):=by
 unfold live at h
 split at h
 ·rename_i l hb
  obtain ⟨arr,e,lo,hi,h1,h2,h3,h4,h5,h6,h7⟩:=hH.obj b _ x hb hx
  exact ⟨by rw [hb]; simp,arr,e,lo,hi,h1,(h6 rfl rfl).1⟩
 ·cases h
theorem run_sameAddr {x y:Addr} (hne:x.block ≠ y.block) (h1:∃ arr e lo hi,w.heap[x.block]? = some (.cells arr e (lo,hi))∧hi≤lo) (h2:∃ arr e lo hi,w.heap[y.block]? = some (.cells arr e (lo,hi))∧hi≤lo) :
  (sameAddr x y).run P w = .ok false w:=by
 obtain ⟨arr,e,lo,hi,g1,g2⟩:=h1
 obtain ⟨arr',e',lo',hi',g3,g4⟩:=h2
 have f1:∀ o s,w.frozen? ⟨x.block,o,s⟩ = false:=by
  intro o s; simp only [World.frozen?,g1]; simp; omega
 have f2:∀ o s,w.frozen? ⟨y.block,o,s⟩ = false:=by
  intro o s; simp only [World.frozen?,g3]; simp; omega
 have f1':w.frozen? x = false:=f1 x.off x.spot
 have f2':w.frozen? y = false:=f2 y.off y.spot
 have s1:w.shape? x.block = some (e,arr.size):=by simp [World.shape?,g1]
 have s2:w.shape? y.block = some (e',arr'.size):=by simp [World.shape?,g3]
 have hb:(x.block == y.block) = false:=by simpa using hne
 simp [sameAddr,hb,f1',noView,viewAt,s1,s2,mayBeOne,stringish,f2',f1,f2]
theorem eqS_ok (hT:TOk T P) (hH:HRel T B φ H w) {q:EqK} {x y:AVal} {u v:Value} (hx:VRel φ x u) (hy:VRel φ y v) {ty:TypeId} (hk:kindOk T ty q) {r:Bool} (h:eqS H q x y = some r) (d:Nat) :
  (Op.equalIn (d + 1) ty u v).run P w = .ok r w:=by
 cases q with
 | pair=>cases hk
 | bool =>
  simp only [eqS] at h
  split at h
  ·cases h
   rw [VRel.bool_inv hx,VRel.bool_inv hy]
   exact run_equalIn_bool w d ty _ _ (hT.und hk)
  ·cases h
 | int =>
  simp only [eqS] at h
  split at h
  ·split at h
   ·rename_i e
    cases h
    obtain ⟨k,hk⟩:=hk
    rw [VRel.int_inv hx,VRel.int_inv hy,← kbeq_eq.1 e,eqI_eq]
    exact run_equalIn_int w d ty _ _ _ _ (hT.und hk)
   ·cases h
  ·cases h
 | str =>
  simp only [eqS] at h
  split at h
  ·cases h
   obtain ⟨e1,h1⟩:=VRel.str_inv hx
   obtain ⟨e2,h2⟩:=VRel.str_inv hy
   rw [e1,e2,run_equalIn_string w d ty _ _ (hT.und hk),strEq_iff h1 h2,strV_toList,strV_toList]
  ·cases h
 | ptr =>
  obtain ⟨e,n,h1,h2⟩:=hk
  have hu:=hT.run_und h1 w
  simp only [eqS] at h
  split at h
  ·cases h
   have e1:u = .pointer none:=hx
   have e2:v = .pointer none:=hy
   subst e1; subst e2
   simp [Op.equalIn,hu]
  ·cases h
   have e1:u = .pointer none:=hx
   obtain ⟨z,hz,e2⟩:=hy
   subst e1; subst e2
   simp [Op.equalIn,hu]
  ·cases h
   have e2:v = .pointer none:=hy
   obtain ⟨z,hz,e1⟩:=hx
   subst e1; subst e2
   simp [Op.equalIn,hu]
  ·rename_i b o b' o'
   obtain ⟨z,hz,e1⟩:=hx
   obtain ⟨z',hz',e2⟩:=hy
   subst e1; subst e2
   have hsz:=hT.run_size h2 w
   split at h
   ·rename_i hb
    have:=Pos.beq_eq.1 hb
    subst this
    rw [hz] at hz'
    cases hz'
    cases h
    have:(sameAddr ⟨z.c,z.s + o,none⟩ ⟨z.c,z.s + o',none⟩).run P w = .ok (Nat.beq o o') w:=by
     have e3:((⟨z.c,z.s + o,none⟩ :Addr) == ⟨z.c,z.s + o',none⟩) = Nat.beq o o':=by
      rw [Bool.eq_iff_iff]
      simp
     simp [sameAddr,e3]
    simp [Op.equalIn,hu,hsz,this]
   ·rename_i hb
    have hne:=Pos.beq_ne hb
    split at h
    ·rename_i l1 l2
     cases h
     obtain ⟨g1,g2⟩:=live_ok hH hz l1
     obtain ⟨g3,g4⟩:=live_ok hH hz' l2
     have hc:=hH.inj b b' z z' hne g1 g3 hz hz'
     have:=run_sameAddr (P:=P) (x:=⟨z.c,z.s + o,none⟩) (y:=⟨z'.c,z'.s + o',none⟩) hc g2 g4
     simp [Op.equalIn,hu,hsz,this]
    ·cases h
  ·cases h
 | sl =>
  obtain ⟨e,h1⟩:=hk
  have hu:=hT.run_und h1 w
  simp only [eqS] at h
  split at h
  ·cases h
   have e1:u = .slice none 0 0:=hx
   have e2:v = .slice none 0 0:=hy
   subst e1; subst e2
   simp [Op.equalIn,hu]
  ·cases h
   have e1:u = .slice none 0 0:=hx
   obtain ⟨z,ad,c,hz,e2,_⟩:=hy
   subst e1; subst e2
   simp [Op.equalIn,hu]
  ·cases h
   have e2:v = .slice none 0 0:=hy
   obtain ⟨z,ad,c,hz,e1,_⟩:=hx
   subst e1; subst e2
   simp [Op.equalIn,hu]
  ·cases h
 | map =>
  obtain ⟨k,e,h1⟩:=hk
  have hu:=hT.run_und h1 w
  simp only [eqS] at h
  split at h
  ·cases h
   have e1:u = .map none:=hx
   have e2:v = .map none:=hy
   subst e1; subst e2
   simp [Op.equalIn,hu]
  ·cases h
   have e1:u = .map none:=hx
   obtain ⟨z,hz,e2⟩:=hy
   subst e1; subst e2
   simp [Op.equalIn,hu]
  ·cases h
   have e2:v = .map none:=hy
   obtain ⟨z,hz,e1⟩:=hx
   subst e1; subst e2
   simp [Op.equalIn,hu]
  ·cases h
 | func =>
  obtain ⟨p,r',vv,h1⟩:=hk
  have hu:=hT.run_und h1 w
  simp only [eqS] at h
  split at h
  ·cases h
   have e1:u = .nilFunc:=hx
   have e2:v = .nilFunc:=hy
   subst e1; subst e2
   simp [Op.equalIn,hu]
  ·cases h
   have e1:u = .nilFunc:=hx
   obtain ⟨z,z',e2,_⟩:=hy
   subst e1; subst e2
   simp [Op.equalIn,hu]
  ·cases h
   have e2:v = .nilFunc:=hy
   obtain ⟨z,z',e1,_⟩:=hx
   subst e1; subst e2
   simp [Op.equalIn,hu]
  ·cases h
 | iface =>
  obtain ⟨m,h1⟩:=hk
  have hu:=hT.run_und h1 w
  simp only [eqS] at h
  split at h
  ·cases h
   have e1:u = .nilIface:=hx
   have e2:v = .nilIface:=hy
   subst e1; subst e2
   simp [Op.equalIn,hu]
  ·cases h
   have e1:u = .nilIface:=hx
   obtain ⟨z,e2,_⟩:=hy
   subst e1; subst e2
   simp [Op.equalIn,hu]
  ·cases h
   have e2:v = .nilIface:=hy
   obtain ⟨z,e1,_⟩:=hx
   subst e1; subst e2
   simp [Op.equalIn,hu]
  ·cases h
end
end Go.Am
end

section
namespace Go.Am
open Go Go.RowKit
section
variable {P:Program} {T:Tys} {B:Nat} {φ:Emb} {H:AHeap} {w:World} {nt:Nat} {t:PT AVal} {a:Act}
theorem eqGuard_nil {op:BinOp} {ty:TypeId} {x y:Operand} (h:(isConstO x || isConstO y) = true) :(eqGuard op ty x y .nilIface .nilIface).run P w = .ok () w:=by
 cases op <;> first
  | rfl
  | (cases x <;> first
    | rfl
    | (cases y <;> first
      | rfl
      | (simp [isConstO] at h)))
theorem eqGuard_other {op:BinOp} {ty:TypeId} {x y:Operand} {u v:Value} (h1:v ≠ .nilIface) (h2:∀ l,u ≠ .agg l) :(eqGuard op ty x y u v).run P w = .ok () w:=by
 cases op <;> first
  | rfl
  | (cases u <;> first
    | (exact absurd rfl (h2 _))
    | (cases v <;> first | (exact absurd rfl h1) | rfl))
theorem eqGuard_agg {op:BinOp} {ty:TypeId} {x y:Operand} {l m:Array Value} (h:P.eqGuardType P.depth ty = false) :(eqGuard op ty x y (.agg l) (.agg m)).run P w = .ok () w:=by
 cases op <;> first
  | rfl
  | (show Sem.run P (do
     if !(← program).eqGuardType (← program).depth ty then return
     if ← Op.eqGuardIn Op.maxDepth ty (.agg l) (.agg m) then unsupported (.noEntry "binop/eql: two nil values of an interface type with methods, in a part of a struct or an array") :Sem Unit) w = _
     simp [h])
theorem run_eql {ty:TypeId} {u v:Value} {r:Bool} (h:(Op.equal ty u v).run P w = .ok r w) (hi:∀ k n,u ≠ .int k n) (hs:∀ s,u ≠ .string s) (hf:∀ k n,u ≠ .float k n) (hc:∀ k n m,u ≠ .complex k n m) :
  (binOp .eql ty u v).run P w = .ok (.bool r) w∧(binOp .neq ty u v).run P w = .ok (.bool (!r)) w:=by
 have h1:binOp .eql ty u v = (do pure (.bool (← Op.equal ty u v)) :Sem Value):=by
  cases u <;> first
   | (exact absurd rfl (hi _ _))
   | (exact absurd rfl (hs _))
   | (exact absurd rfl (hf _ _))
   | (exact absurd rfl (hc _ _ _))
   | rfl
 have h2:binOp .neq ty u v = (do pure (.bool (!(← Op.equal ty u v))) :Sem Value):=by
  cases u <;> first
   | (exact absurd rfl (hi _ _))
   | (exact absurd rfl (hs _))
   | (exact absurd rfl (hf _ _))
   | (exact absurd rfl (hc _ _ _))
   | rfl
 rw [h1,h2]
 simp [h]
def eqOk (T:Tys) (ty:TypeId) (x y:Operand) :EqKs→Prop
 | .one q=>kindOk T ty q∧(q ≠ .int∧q ≠ .str)∧(q = .iface→(isConstO x || isConstO y) = true)
 | .cells qs=>(∃ fs,T.und ty = some (.struct fs)∧T.cmps.contains ty = true∧eqFields T fs.toList 0 = some qs) ∨
   (∃ n e q,T.und ty = some (.array n e)∧eqScal T e = some q∧T.isAgg e = some false∧T.size e = some 1∧qs = List.replicate n q)
theorem eqType_ok {ty:TypeId} {x y:Operand} {k:EqKs} (h:eqType T ty x y = some k) :eqOk T ty x y k:=by
 unfold eqType at h
 split at h
 ·cases h; exact ⟨‹_›,by simp,by simp⟩
 ·split at h
  ·cases h; exact ⟨⟨_,_,‹_›,‹_›⟩,by simp,by simp⟩
  ·cases h
 ·cases h; exact ⟨⟨_,‹_›⟩,by simp,by simp⟩
 ·cases h; exact ⟨⟨_,_,‹_›⟩,by simp,by simp⟩
 ·cases h; exact ⟨⟨_,_,_,‹_›⟩,by simp,by simp⟩
 ·split at h
  ·cases h; exact ⟨⟨_,‹_›⟩,by simp,fun _=>‹_›⟩
  ·cases h
 ·split at h
  ·cases h; exact .inl ⟨_,‹_›,‹_›,‹_›⟩
  ·cases h
 ·split at h
  ·cases h; exact .inr ⟨_,_,_,‹_›,‹_›,‹_›,‹_›,rfl⟩
  ·cases h
 ·cases h
theorem eqScal_ok {ty:TypeId} {q:EqK} (h:eqScal T ty = some q) :kindOk T ty q:=by
 unfold eqScal at h
 split at h
 ·cases h; assumption
 ·cases h; exact ⟨_,‹_›⟩
 ·cases h; assumption
 ·cases h
theorem part_ok (hT:TOk T P) {ty:TypeId} (hg:T.isAgg ty = some false) {l:List AVal} {vs:Array Value} (hl:LRel φ l vs.toList) {i:Nat} {x:AVal} (hx:l[i]? = some x) :
  ∃ u,(part ty vs i).run P w = .ok u w∧VRel φ x u:=by
 obtain ⟨u,hu,hv⟩:=hl.get hx
 have:vs[i]? = some u:=by simpa using hu
 exact ⟨u,by simp [part,hT.run_isAgg hg,this],hv⟩
theorem eqFields_run (hT:TOk T P) (hH:HRel T B φ H w) {l m:List AVal} {us vs:Array Value} (hl:LRel φ l us.toList) (hm:LRel φ m vs.toList) (d:Nat) :∀ {fs:List Field} {i:Nat} {qs:List EqK} {r:Bool},
  eqFields T fs i = some qs→eqL H qs (l.drop i) (m.drop i) = some r→(Op.eqFields (d + 1) us vs fs).run P w = .ok r w
 | [],i,qs,r,h,e=>by
  simp [eqFields] at h
  subst h
  have:r = true:=by
   generalize l.drop i = l' at e
   generalize m.drop i = m' at e
   cases l' <;> cases m' <;> simp [eqL] at e <;> exact e
  subst this
  rfl
 | f :: fs,i,qs,r,h,e=>by
  simp only [eqFields] at h
  split at h
  ·rename_i q m' hn ho hg hq hr
   cases h
   cases hl':l.drop i with
   | nil=>simp [hl',eqL] at e
   | cons x l' =>
    cases hm':m.drop i with
    | nil=>simp [hl',hm',eqL] at e
    | cons y m'' =>
     rw [hl',hm'] at e
     simp only [eqL] at e
     have hx:l[i]? = some x:=by
      have:=congrArg List.head? hl'
      simpa using this
     have hy:m[i]? = some y:=by
      have:=congrArg List.head? hm'
      simpa using this
     have hof:f.offset = i:=Nat.eq_of_beq_eq_true ho
     obtain ⟨u,g1,g2⟩:=part_ok (P:=P) (w:=w) hT hg hl hx
     obtain ⟨v,g3,g4⟩:=part_ok (P:=P) (w:=w) hT hg hm hy
     have dl:l.drop (i + 1) = l':=by
      have:=congrArg List.tail hl'
      simpa [List.tail_drop] using this
     have dm:m.drop (i + 1) = m'':=by
      have:=congrArg List.tail hm'
      simpa [List.tail_drop] using this
     have hname:f.name ≠ "_":=by simpa using hn
     simp only [Op.eqFields,if_pos hname,Sem.run_bind,hof,g1,g3,Result.andThen_ok]
     split at e
     ·rename_i he
      have hrec:=eqFields_run hT hH hl hm d (fs:=fs) (i:=i + 1) hr (by rw [dl,dm]; exact e)
      simp [eqS_ok hT hH g2 g4 (eqScal_ok hq) he d,hrec]
     ·rename_i he
      cases e
      simp [eqS_ok hT hH g2 g4 (eqScal_ok hq) he d]
     ·cases e
  ·cases h
theorem eqItems_run (hT:TOk T P) (hH:HRel T B φ H w) {l m:List AVal} {us vs:Array Value} (hl:LRel φ l us.toList) (hm:LRel φ m vs.toList) {ety:TypeId} {q:EqK} (hq:eqScal T ety = some q) (hg:T.isAgg ety = some false) (d:Nat) :∀ {n i:Nat} {r:Bool},
  eqL H (List.replicate n q) (l.drop i) (m.drop i) = some r→(Op.eqItems (d + 1) ety 1 us vs (List.range' i n)).run P w = .ok r w
 | 0,i,r,e=>by
  have:r = true:=by
   simp only [List.replicate_zero] at e
   generalize l.drop i = l' at e
   generalize m.drop i = m' at e
   cases l' <;> cases m' <;> simp [eqL] at e <;> exact e
  subst this
  rfl
 | n + 1,i,r,e=>by
  simp only [List.replicate_succ] at e
  cases hl':l.drop i with
  | nil=>simp [hl',eqL] at e
  | cons x l' =>
   cases hm':m.drop i with
   | nil=>simp [hl',hm',eqL] at e
   | cons y m'' =>
    rw [hl',hm'] at e
    simp only [eqL] at e
    have hx:l[i]? = some x:=by
     have:=congrArg List.head? hl'
     simpa using this
    have hy:m[i]? = some y:=by
     have:=congrArg List.head? hm'
     simpa using this
    obtain ⟨u,g1,g2⟩:=part_ok (P:=P) (w:=w) hT hg hl hx
    obtain ⟨v,g3,g4⟩:=part_ok (P:=P) (w:=w) hT hg hm hy
    have dl:l.drop (i + 1) = l':=by
     have:=congrArg List.tail hl'
     simpa [List.tail_drop] using this
    have dm:m.drop (i + 1) = m'':=by
     have:=congrArg List.tail hm'
     simpa [List.tail_drop] using this
    simp only [List.range'_succ,Op.eqItems,Sem.run_bind,Nat.mul_one,g1,g3,Result.andThen_ok]
    split at e
    ·rename_i he
     have hrec:=eqItems_run hT hH hl hm hq hg d (n:=n) (i:=i + 1) (by rw [dl,dm]; exact e)
     simp [eqS_ok hT hH g2 g4 (eqScal_ok hq) he d,hrec]
    ·rename_i he
     cases e
     simp [eqS_ok hT hH g2 g4 (eqScal_ok hq) he d]
    ·cases e
theorem eqGuardType_scal {ty:TypeId} {q:EqK} (hT:TOk T P) (h:eqScal T ty = some q) (d:Nat) :P.eqGuardType (d + 1) ty = false:=by
 unfold eqScal at h
 split at h <;> first | (cases h; done) | (rename_i hu; simp [Program.eqGuardType,hT.und hu])
theorem eqFields_guard (hT:TOk T P) (d:Nat) :∀ {fs:List Field} {i:Nat} {qs:List EqK},eqFields T fs i = some qs→(fs.any fun (f:Field)=>f.name != "_" && P.eqGuardType (d + 1) f.type) = false
 | [],_,_,_=>rfl
 | f :: fs,i,qs,h=>by
  simp only [eqFields] at h
  split at h
  ·rename_i q m' hn ho hg hq hr
   simp [eqGuardType_scal hT hq d]
   have:=eqFields_guard hT d hr
   simpa using this
  ·cases h
theorem quiet_eq (hT:TOk2 T P) (hH:HRel T B φ H w) (ht:TRel φ nt t a.tmps) {o:Oper} {neg:Bool} {ty ty2:TypeId} {x y:Operand} (ho:o.op = .binOp (match neg with | true=>.neq | false=>.eql) ty x y ty2) {ax ay:AOpnd} (hx:opnd T x = some ax) (hy:opnd T y = some ay)
  {k:EqKs} (hk:eqOk T ty x y k) {v:AVal} (h:quiet t H (.eq neg k ax ay) = some v) :∃ u,(execOp a.eval o).run P w = .ok (.value u) w∧VRel φ v u:=by
 simp only [quiet] at h
 split at h
 ·rename_i b hb
  cases h
  have hxv:=opnd_ok hH ht hx
  have hyv:=opnd_ok hH ht hy
  refine ⟨.bool (match neg with | true=>!b | false=>b),?_,by cases neg <;> rfl⟩
  have hdep:P.depth = (P.depth - 2) + 1 + 1:=by unfold Program.depth; omega
  have main:(Op.equal ty (a.eval x) (a.eval y)).run P w = .ok b w∧(∀ op,(eqGuard op ty x y (a.eval x) (a.eval y)).run P w = .ok () w) ∧
    (∀ k n,a.eval x ≠ .int k n)∧(∀ s,a.eval x ≠ .string s)∧(∀ k n,a.eval x ≠ .float k n)∧(∀ k n m,a.eval x ≠ .complex k n m):=by
   cases k with
   | one q =>
    obtain ⟨hk1,⟨hk2,hk3⟩,hk4⟩:=hk
    simp only [eqV] at hb
    have he:(Op.equal ty (a.eval x) (a.eval y)).run P w = .ok b w:=eqS_ok hT.toTOk hH hxv hyv hk1 hb 9999
    refine ⟨he,?_⟩
    generalize ax.ev t = X at hb hxv
    generalize ay.ev t = Y at hb hyv
    cases q with
    | pair=>exact hk1.elim
    | int=>exact absurd rfl hk2
    | str=>exact absurd rfl hk3
    | iface =>
     have hc:=hk4 rfl
     simp only [eqS] at hb
     split at hb
     ·have e1:a.eval x = .nilIface:=hxv
      have e2:a.eval y = .nilIface:=hyv
      rw [e1,e2]
      exact ⟨fun op=>eqGuard_nil hc,by simp,by simp,by simp,by simp⟩
     ·obtain ⟨z,e2,_⟩:=hyv
      have e1:a.eval x = .nilIface:=hxv
      rw [e1,e2]
      exact ⟨fun op=>eqGuard_other (by simp) (by simp),by simp,by simp,by simp,by simp⟩
     ·obtain ⟨z,e1,_⟩:=hxv
      rw [e1]
      exact ⟨fun op=>eqGuard_scal (by simp) (by simp),by simp,by simp,by simp,by simp⟩
     ·cases hb
    | bool =>
     simp only [eqS] at hb
     split at hb
     ·rw [VRel.bool_inv hxv]; exact ⟨fun op=>eqGuard_scal (by simp) (by simp),by simp,by simp,by simp,by simp⟩
     ·cases hb
    | ptr =>
     simp only [eqS] at hb
     split at hb
     ·have e1:a.eval x = .pointer none:=hxv
      rw [e1]; exact ⟨fun op=>eqGuard_scal (by simp) (by simp),by simp,by simp,by simp,by simp⟩
     ·have e1:a.eval x = .pointer none:=hxv
      rw [e1]; exact ⟨fun op=>eqGuard_scal (by simp) (by simp),by simp,by simp,by simp,by simp⟩
     ·obtain ⟨z,_,e1⟩:=hxv
      rw [e1]; exact ⟨fun op=>eqGuard_scal (by simp) (by simp),by simp,by simp,by simp,by simp⟩
     ·obtain ⟨z,_,e1⟩:=hxv
      rw [e1]; exact ⟨fun op=>eqGuard_scal (by simp) (by simp),by simp,by simp,by simp,by simp⟩
     ·cases hb
    | sl =>
     simp only [eqS] at hb
     split at hb
     ·have e1:a.eval x = .slice none 0 0:=hxv
      rw [e1]; exact ⟨fun op=>eqGuard_scal (by simp) (by simp),by simp,by simp,by simp,by simp⟩
     ·have e1:a.eval x = .slice none 0 0:=hxv
      rw [e1]; exact ⟨fun op=>eqGuard_scal (by simp) (by simp),by simp,by simp,by simp,by simp⟩
     ·obtain ⟨z,ad,c,_,e1,_⟩:=hxv
      rw [e1]; exact ⟨fun op=>eqGuard_scal (by simp) (by simp),by simp,by simp,by simp,by simp⟩
     ·cases hb
    | map =>
     simp only [eqS] at hb
     split at hb
     ·have e1:a.eval x = .map none:=hxv
      rw [e1]; exact ⟨fun op=>eqGuard_scal (by simp) (by simp),by simp,by simp,by simp,by simp⟩
     ·have e1:a.eval x = .map none:=hxv
      rw [e1]; exact ⟨fun op=>eqGuard_scal (by simp) (by simp),by simp,by simp,by simp,by simp⟩
     ·obtain ⟨z,_,e1⟩:=hxv
      rw [e1]; exact ⟨fun op=>eqGuard_scal (by simp) (by simp),by simp,by simp,by simp,by simp⟩
     ·cases hb
    | func =>
     simp only [eqS] at hb
     split at hb
     ·have e1:a.eval x = .nilFunc:=hxv
      rw [e1]; exact ⟨fun op=>eqGuard_scal (by simp) (by simp),by simp,by simp,by simp,by simp⟩
     ·have e1:a.eval x = .nilFunc:=hxv
      rw [e1]; exact ⟨fun op=>eqGuard_scal (by simp) (by simp),by simp,by simp,by simp,by simp⟩
     ·obtain ⟨z,z',e1,_⟩:=hxv
      rw [e1]; exact ⟨fun op=>eqGuard_scal (by simp) (by simp),by simp,by simp,by simp,by simp⟩
     ·cases hb
   | cells qs =>
    simp only [eqV] at hb
    split at hb
    ·rename_i l m e1 e2
     rw [e1] at hxv
     rw [e2] at hyv
     obtain ⟨us,g1,hl⟩:=hxv
     obtain ⟨vs,g2,hm⟩:=hyv
     rw [g1,g2]
     rcases hk with ⟨fs,h1,h2,h3⟩ | ⟨n,e,q,h1,h2,h3,h4,h5⟩
     ·have hu:=hT.und h1
      have hfs:P.fieldsOf ty = fs:=by simp [Program.fieldsOf,hu]
      have he:(Op.equal ty (.agg us) (.agg vs)).run P w = .ok b w:=by
       show (Op.equalIn (9999 + 1) ty (.agg us) (.agg vs)).run P w = _
       rw [run_equalIn_struct w 9999 ty us vs (by rw [hfs]; exact hu) (hT.cmp _ h2),hfs]
       exact eqFields_run hT.toTOk hH hl hm 9998 (i:=0) h3 (by simpa using hb)
      have hgt:P.eqGuardType P.depth ty = false:=by
       rw [hdep]
       simp only [Program.eqGuardType,hu]
       rw [← Array.any_toList]
       exact eqFields_guard hT.toTOk _ h3
      exact ⟨he,fun op=>eqGuard_agg hgt,by simp,by simp,by simp,by simp⟩
     ·have hu:=hT.und h1
      subst h5
      have he:(Op.equal ty (.agg us) (.agg vs)).run P w = .ok b w:=by
       show (Op.equalIn (9999 + 1) ty (.agg us) (.agg vs)).run P w = _
       unfold Tys.size at h4
       cases hg:T.get e with
       | none=>simp [hg] at h4
       | some i =>
        simp only [hg] at h4
        have hc:P.cellsOf e = 1:=by
         simp [Program.cellsOf,hT.info _ _ hg]
         simpa using h4
        rw [run_equalIn_array w 9999 us vs hu (hT.info _ _ hg),hc,List.range_eq_range']
        exact eqItems_run hT.toTOk hH hl hm h2 h3 9998 (i:=0) (by simpa using hb)
      have hgt:P.eqGuardType P.depth ty = false:=by
       rw [hdep]
       simp only [Program.eqGuardType,hu]
       exact eqGuardType_scal hT.toTOk h2 _
      exact ⟨he,fun op=>eqGuard_agg hgt,by simp,by simp,by simp,by simp⟩
    ·cases hb
  obtain ⟨he,hg,h1,h2,h3,h4⟩:=main
  obtain ⟨r1,r2⟩:=run_eql he h1 h2 h3 h4
  cases neg
  ·simp [execOp,ho,hg,r1]
  ·simp [execOp,ho,hg,r2]
 ·cases h
end
end Go.Am
end
