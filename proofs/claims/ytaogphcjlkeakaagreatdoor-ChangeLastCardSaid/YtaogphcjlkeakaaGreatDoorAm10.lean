/- Part of the proof: AmStep, AmStep2, AmStep3. -/
import Derived.Test.YtaogphcjlkeakaaGreatDoorAm9
set_option linter.unusedSimpArgs false
set_option linter.unusedVariables false
section
namespace Go.Am
open Go Go.RowKit
section
variable {P:Program} {T:Tys} {B:Nat} {φ:Emb} {H:AHeap} {w:World} {nt:Nat} {t:PT AVal} {a:Act}
theorem run_builtin {o:Oper} {c:Call} {b:Builtin} (ho:o.op = .call c) (hc:c.callee = .builtin b) :
  ∃ cs,(execOp a.eval o).run P w = (builtin b c.argTypes o.type cs (c.args.map a.eval)).run P w:=by
 simp only [execOp,ho,resolve,hc,Sem.run_bind,Sem.run_pure,Result.andThen_ok,invoke]
 exact ⟨_,rfl⟩
theorem list_get {α:Type} {xs:Array α} {l:List α} (h:xs.toList = l) (i:Nat) :xs[i]? = l[i]?:=by rw [← h]; simp
theorem quiet_call (hT:TOk T P) (hH:HRel T B φ H w) (ht:TRel φ nt t a.tmps) {o:Oper} {c:Call} (ho:o.op = .call c) {ao:AOp} (hc:compCall T c = some ao) {v:AVal} (h:quiet t H ao = some v) :
  ∃ u,(execOp a.eval o).run P w = .ok (.value u) w∧VRel φ v u:=by
 unfold compCall at hc
 split at hc
 ·
  split at hc
  ·cases hc; simp [quiet] at h
  ·cases hc
 ·split at hc
  ·cases hc; simp [quiet] at h
  ·cases hc
 ·cases hc
 ·rename_i b hb
  obtain ⟨cs,hrun⟩:=run_builtin (P:=P) (w:=w) (a:=a) ho hb
  rw [hrun]
  split at hc
  ·
   rename_i x ty rest hargs hats
   have h0:c.argTypes[0]? = some ty:=by rw [list_get hats]; rfl
   have hx0:(c.args.map a.eval)[0]? = some (a.eval x):=by rw [Array.getElem?_map,list_get hargs]; rfl
   have wrap:∀ {v:AVal},(∃ r,(Builtin.len_ c.argTypes o.type (c.args.map a.eval)).run P w = .ok r w∧VRel φ v r)→∃ u,(builtin .len c.argTypes o.type cs (c.args.map a.eval)).run P w = .ok (.value u) w∧VRel φ v u:=by
    intro v ⟨r,h1,h2⟩
    exact ⟨r,by simp [builtin,h1],h2⟩
   split at hc
   ·cases hc; exact wrap (quiet_len0 hT hH ht ‹_› ‹_› h h0 hx0)
   ·cases hc; exact wrap (quiet_len1 hT hH ht ‹_› ‹_› h h0 hx0)
   ·cases hc; exact wrap (quiet_len2 hT hH ht ‹_› ‹_› h h0 hx0)
   ·rename_i n _ _ hu _
    cases hc
    cases h
    exact wrap ⟨goInt n,by simp [Builtin.len_,h0,hx0,hT.run_und hu],rfl⟩
   ·rename_i p _ hu _
    split at hc
    ·rename_i n _ hp
     cases hc
     cases h
     exact wrap ⟨goInt n,by simp [Builtin.len_,h0,hx0,hT.run_und hu,hT.run_und hp],rfl⟩
    ·cases hc
   ·cases hc
  ·
   split at hc
   ·split at hc
    ·split at hc
     ·cases hc; simp [quiet] at h
     ·cases hc
    ·cases hc
   ·cases hc
  ·split at hc
   ·split at hc
    ·cases hc; simp [quiet] at h
    ·cases hc
   ·cases hc
  ·
   split at hc
   ·rename_i l hl
    cases hc
    simp only [quiet] at h
    have hr:=opnds_ok hH ht hl
    split at h
    ·rename_i x l' hxs
     rw [hxs] at hr
     obtain ⟨u,us,e,h1,h2⟩:=hr
     obtain ⟨r,g1,g2⟩:=mmA_ok (P:=P) (w:=w) false h1 h2 h
     have:(c.args.map a.eval).toList = u :: us:=by rw [Array.toList_map]; exact e
     exact ⟨r,by simp only [if_neg Bool.false_ne_true] at g1; simp only [builtin,Builtin.min_,this,Sem.run_bind,g1,Result.andThen_ok,Sem.run_pure],g2⟩
    ·cases h
   ·cases hc
  ·split at hc
   ·rename_i l hl
    cases hc
    simp only [quiet] at h
    have hr:=opnds_ok hH ht hl
    split at h
    ·rename_i x l' hxs
     rw [hxs] at hr
     obtain ⟨u,us,e,h1,h2⟩:=hr
     obtain ⟨r,g1,g2⟩:=mmA_ok (P:=P) (w:=w) true h1 h2 h
     have:(c.args.map a.eval).toList = u :: us:=by rw [Array.toList_map]; exact e
     exact ⟨r,by simp only [if_true] at g1; simp only [builtin,Builtin.max_,this,Sem.run_bind,g1,Result.andThen_ok,Sem.run_pure],g2⟩
    ·cases h
   ·cases hc
  ·split at hc
   ·split at hc
    ·cases hc; simp [quiet] at h
    ·cases hc
   ·cases hc
  ·split at hc
   ·split at hc
    ·cases hc; simp [quiet] at h
    ·cases hc
   ·cases hc
  ·cases hc
theorem slice_key {am ah:Option AOpnd} {X:Option TypeDesc} {d:TypeDesc} (hX:(match am,ah with | some _,none=>none | _,_=>X) = some d) :X = some d∧(am.isSome = true→ah.isSome = true):=by
 cases am <;> cases ah <;> first
  | exact ⟨hX,by simp⟩
  | cases hX
theorem quiet_ok (hT:TOk2 T P) (hH:HRel T B φ H w) (ht:TRel φ nt t a.tmps) {o:Oper} {ao:AOp} (hc:compOp T o.op = some ao) {v:AVal} (h:quiet t H ao = some v) :
  ∃ u,(execOp a.eval o).run P w = .ok (.value u) w∧VRel φ v u:=by
 have hT1:=hT.toTOk
 generalize ho:o.op = op at hc
 unfold compOp at hc
 split at hc
 ·
  split at hc
  ·cases hc; cases h; exact quiet_move hH ht (.inl ho) ‹_›
  ·cases hc
 ·split at hc
  ·cases hc; cases h; exact quiet_move hH ht (.inr ho) ‹_›
  ·cases hc
 ·split at hc
  ·cases hc; exact quiet_pick hH ht ho ‹_› ‹_› ‹_› h
  ·cases hc
 ·split at hc
  ·cases hc; simp [quiet] at h
  ·cases hc
 ·split at hc
  ·cases hc; simp [quiet] at h
  ·cases hc
 ·
  split at hc
  ·split at hc
   ·cases hc; exact quiet_buildS hT1 hH ht ho ‹_› ‹_› ‹_› ‹_› h
   ·cases hc
  ·split at hc
   ·split at hc
    ·cases hc; exact quiet_buildA hT1 hH ht ho ‹_› ‹_› ‹_› ‹_› h
    ·cases hc
   ·cases hc
  ·cases hc
 ·
  split at hc
  ·split at hc
   ·split at hc
    ·cases hc; simp [quiet] at h
    ·cases hc
   ·cases hc
  ·cases hc
 ·
  split at hc
  ·cases hc; exact quiet_loadN hT1 hH ht ho ‹_› ‹_› ‹_› h
  ·cases hc; exact quiet_load1 hT1 hH ht ho ‹_› ‹_› h
  ·cases hc
 ·split at hc
  ·cases hc; simp [quiet] at h
  ·cases hc
 ·split at hc
  ·cases hc; exact quiet_nilCheck hH ht ho ‹_› h
  ·cases hc
 ·
  split at hc
  ·split at hc
   ·cases hc; exact quiet_bin hH ht ho ‹_› ‹_› h
   ·cases hc; exact quiet_bin hH ht ho ‹_› ‹_› h
   ·split at hc
    ·cases hc; exact quiet_eq hT hH ht (neg:=false) ho ‹_› ‹_› (eqType_ok ‹_›) h
    ·cases hc; exact quiet_eq hT hH ht (neg:=true) ho ‹_› ‹_› (eqType_ok ‹_›) h
    ·cases hc
  ·cases hc
 ·split at hc
  ·cases hc; exact quiet_un hH ht ho ‹_› h
  ·cases hc
 ·
  split at hc
  ·cases hc; exact quiet_toInt hT1 hH ht ho ‹_› ‹_› ‹_› h
  ·cases hc; exact quiet_same hT1 hH ht ho ‹_› ‹_› ‹_› h
  ·split at hc
   ·cases hc; simp [quiet] at h
   ·cases hc
  ·split at hc
   ·cases hc; exact quiet_bytesStr hT1 hH ht ho ‹_› ‹_› ‹_› ‹_› h
   ·cases hc
  ·split at hc
   ·cases hc; simp [quiet] at h
   ·cases hc
  ·cases hc
 ·
  split at hc
  ·split at hc
   ·split at hc
    ·cases hc; exact quiet_fieldAddr hT1 hH ht ho ‹_› ‹_› ‹_› ‹_› h
    ·cases hc
   ·cases hc
  ·cases hc
 ·
  split at hc
  ·split at hc
   ·cases hc; exact quiet_idxS hT1 hH ht ho ‹_› ‹_› ‹_› ‹_› h
   ·cases hc
  ·split at hc
   ·cases hc; exact quiet_idxA hT1 hH ht ho ‹_› ‹_› ‹_› ‹_› h
   ·cases hc
  ·cases hc
 ·
  split at hc
  ·split at hc
   ·split at hc
    ·cases hc; exact quiet_fieldN hT1 hH ht ho ‹_› ‹_› ‹_› ‹_› ‹_› h
    ·cases hc; exact quiet_field1 hT1 hH ht ho ‹_› ‹_› ‹_› ‹_› h
    ·cases hc
   ·cases hc
  ·cases hc
 ·
  split at hc
  ·cases hc; exact quiet_idxStr hT1 hH ht ho ‹_› ‹_› ‹_› h
  ·split at hc
   ·cases hc; exact quiet_idxArr hT1 hH ht ho ‹_› ‹_› ‹_› ‹_› ‹_› h
   ·cases hc
  ·cases hc
 ·
  split at hc
  ·rename_i al ah am _ hl hh hm
   split at hc
   ·rename_i hu
    obtain ⟨hu,hmh⟩:=slice_key hu
    cases hc; exact quiet_sliceStr hT1 hH ht ho ‹_› hl hh hm hu h
   ·rename_i hu
    obtain ⟨hu,hmh⟩:=slice_key hu
    split at hc
    ·cases hc; exact quiet_sliceS hT1 hH ht ho ‹_› hl hh hm hmh hu ‹_› (by simp) h
    ·cases hc
   ·rename_i hu
    obtain ⟨hu,hmh⟩:=slice_key hu
    split at hc
    ·cases hc; exact quiet_sliceA hT1 hH ht ho ‹_› hl hh hm hmh hu ‹_› h
    ·cases hc
   ·cases hc
  ·cases hc
 ·
  split at hc
  ·cases hc; exact quiet_s2ap hT1 hH ht ho ‹_› ‹_› (by simp) h
  ·cases hc
 ·
  split at hc
  ·cases hc
  ·rename_i d ax hne hu hx
   cases hc; cases h
   exact quiet_mkI hT1 hH ht ho hx hu hne
  ·cases hc
 ·split at hc
  ·cases hc; cases h; exact quiet_mkF hH ht ho ‹_› ‹_›
  ·cases hc
 ·cases hc; simp [quiet] at h
 ·
  split at hc
  ·split at hc
   ·cases hc; simp [quiet] at h
   ·cases hc
  ·cases hc
 ·
  split at hc
  ·split at hc
   ·cases hc; exact quiet_lookup hT1 hH ht ho ‹_› ‹_› ‹_› ‹_› ‹_› h
   ·cases hc
  ·cases hc
 ·split at hc
  ·split at hc
   ·cases hc; simp [quiet] at h
   ·cases hc
  ·cases hc
 ·split at hc
  ·cases hc; exact quiet_extract hH ht ho ‹_› h
  ·cases hc
 ·exact quiet_call hT1 hH ht ho hc h
 ·split at hc
  ·split at hc
   ·cases hc; simp [quiet] at h
   ·cases hc
  ·cases hc
 ·cases hc
end
end Go.Am
end

section
namespace Go.Am
open Go Go.RowKit
section
variable {P:Program} {T:Tys} {B:Nat} {φ:Emb} {H:AHeap} {w:World} {nt:Nat} {t:PT AVal} {a:Act}
theorem write_quiet {ao:AOp} {v:AVal} {H':AHeap} (hq:isQuiet ao = true) (h:write t H ao = some (v,H')) :quiet t H ao = some v∧H' = H:=by
 have go:∀ q:Option AVal,(match q with | some v=>some (v,H) | none=>none:ARes) = some (v,H')→q = some v∧H' = H:=by
  intro q h
  cases q with
  | none=>cases h
  | some u=>cases h; exact ⟨rfl,rfl⟩
 cases ao <;> first
  | exact go _ h
  | (simp [isQuiet] at hq; done)
  | skip
 rename_i c x
 cases c <;> first
  | exact go _ h
  | (simp [isQuiet] at hq; done)
theorem write_call (hT:TOk2 T P) (hH:HRel T B φ H w) (ht:TRel φ nt t a.tmps) {o:Oper} {c:Call} (ho:o.op = .call c) {ao:AOp} (hc:compCall T c = some ao) (hq:isQuiet ao = false) {v:AVal} {H':AHeap} (h:write t H ao = some (v,H')) :
  Does P T B φ H w (execOp a.eval o) v H':=by
 unfold compCall at hc
 split at hc
 ·split at hc
  ·cases hc; simp [write,quiet] at h
  ·cases hc
 ·split at hc
  ·cases hc; simp [write,quiet] at h
  ·cases hc
 ·cases hc
 ·rename_i b hb
  obtain ⟨cs,hrun⟩:=run_builtin (P:=P) (w:=w) (a:=a) ho hb
  have wrap:∀ {m':Sem Value},(builtin b c.argTypes o.type cs (c.args.map a.eval)) = (do pure (.value (← m')))→DoesV P T B φ H w m' v H'→Does P T B φ H w (execOp a.eval o) v H':=by
   intro m' hm ⟨u,w',φ',h1,h2,h3⟩
   exact ⟨_,u,w',φ',by rw [hrun,hm]; simp [h1],.inl rfl,h2,h3⟩
  split at hc
  ·split at hc
   all_goals first
    | (cases hc; simp [isQuiet] at hq; done)
    | (cases hc; done)
    | (split at hc
       all_goals first
         | (cases hc; simp [isQuiet] at hq; done)
         | (cases hc; done))
  ·
   rename_i s x ts tx hargs hats
   have h0:c.argTypes[0]? = some ts:=by rw [list_get hats]; rfl
   have hx0:(c.args.map a.eval)[0]? = some (a.eval s):=by rw [Array.getElem?_map,list_get hargs]; rfl
   have hx1:(c.args.map a.eval)[1]? = some (a.eval x):=by rw [Array.getElem?_map,list_get hargs]; rfl
   have ht1:c.argTypes[1]? = tx[0]?:=by rw [list_get hats]; rfl
   split at hc
   ·rename_i e as ax hu hs hx
    split at hc
    ·rename_i i hi
     split at hc
     ·rename_i sz by_ z hz hsz hby hzz
      cases hc
      have hne:c.argTypes[1]? = none∨∃ tx d,c.argTypes[1]? = some tx∧T.und tx = some d∧∀ k,d ≠ .int k:=by
       rw [ht1]
       split at hz
       ·exact .inl rfl
       ·rename_i tt _
        right
        split at hz
        ·cases hz
        ·rename_i d hd hut
         exact ⟨tt,d,rfl,hut,fun k e=>hd k (by rw [e])⟩
        ·cases hz
      refine wrap (m':=Builtin.append_ c.argTypes o.type (c.args.map a.eval)) rfl ?_
      refine does_append hT hH h0 hx0 hx1 (opnd_ok hH ht hs) (opnd_ok hH ht hx) hne hu hi (by rw [hby]; simp) (by rw [hsz]; simp) hzz ?_
      rw [hsz,hby]
      exact h
     ·cases hc
    ·cases hc
   ·cases hc
  ·
   rename_i d s ts tx hargs hats
   have h0:c.argTypes[0]? = some ts:=by rw [list_get hats]; rfl
   have hx0:(c.args.map a.eval)[0]? = some (a.eval d):=by rw [Array.getElem?_map,list_get hargs]; rfl
   have hx1:(c.args.map a.eval)[1]? = some (a.eval s):=by rw [Array.getElem?_map,list_get hargs]; rfl
   split at hc
   ·rename_i e ad as hu hd hs
    split at hc
    ·rename_i sz hsz
     cases hc
     refine wrap (m':=Builtin.copy_ c.argTypes o.type (c.args.map a.eval)) rfl ?_
     simp only [write] at h
     cases hn:lenA (as.ev t) with
     | none=>rw [hn] at h; split at h <;> simp_all
     | some nn =>
      refine does_copy hT.toTOk hH h0 hx0 hx1 (opnd_ok hH ht hd) (opnd_ok hH ht hs) hu hsz hn ?_
      rw [hn] at h
      rw [← h]
      unfold copyA
      cases ad.ev t <;> rfl
    ·cases hc
   ·cases hc
  ·split at hc
   ·cases hc; simp [isQuiet] at hq
   ·cases hc
  ·split at hc
   ·cases hc; simp [isQuiet] at hq
   ·cases hc
  ·
   rename_i x ty rest hargs hats
   have h0:c.argTypes[0]? = some ty:=by rw [list_get hats]; rfl
   have hx0:(c.args.map a.eval)[0]? = some (a.eval x):=by rw [Array.getElem?_map,list_get hargs]; rfl
   split at hc
   ·rename_i e ax hu hx
    split at hc
    ·rename_i z k hz hk
     cases hc
     refine wrap (m':=Builtin.clear_ c.argTypes o.type (c.args.map a.eval)) rfl ?_
     refine does_clear hT.toTOk hH h0 hx0 (opnd_ok hH ht hx) hu hz ?_
     simp only [write] at h
     rw [← h]
     unfold clearA
     cases ax.ev t <;> rfl
    ·cases hc
   ·cases hc
  ·
   rename_i m k ty rest hargs hats
   have h0:c.argTypes[0]? = some ty:=by rw [list_get hats]; rfl
   have hx0:(c.args.map a.eval)[0]? = some (a.eval m):=by rw [Array.getElem?_map,list_get hargs]; rfl
   have hx1:(c.args.map a.eval)[1]? = some (a.eval k):=by rw [Array.getElem?_map,list_get hargs]; rfl
   split at hc
   ·rename_i kt e am ak hu hm hk
    split at hc
    ·rename_i q hkk
     cases hc
     simp only [write] at h
     split at h
     ·rename_i b h1
      split at h
      ·rename_i es hb
       split at h
       ·rename_i hfit
        split at h
        ·rename_i es' hp
         cases h
         have hmv:=opnd_ok hH ht hm
         rw [h1] at hmv
         exact wrap (m':=Builtin.delete_ c.argTypes o.type (c.args.map a.eval)) rfl (does_delete hT.toTOk hH h0 hx0 hx1 hmv (opnd_ok hH ht hk) hu hkk hb hfit hp)
        ·cases h
       ·cases h
      ·cases h
     ·cases h
    ·cases hc
   ·cases hc
  ·cases hc
end
end Go.Am
end

section
namespace Go.Am
open Go Go.RowKit
theorem cscal_any (v:Value) :cscal v ≠ some .any:=by unfold cscal; split <;> simp
theorem opnd_here {T:Tys} {x:Operand} {ax:AOpnd} (h:opnd T x = some ax) :isGone ax = false:=by
 unfold opnd at h
 split at h
 ·split at h
  ·cases h; rfl
  ·cases h
 ·split at h
  ·rename_i v a ha
   cases h
   cases a <;> first
    | rfl
    | (exfalso
       unfold ofConst at ha
       split at ha
       ·split at ha <;> cases ha
       ·split at ha <;> cases ha
       ·split at ha <;> cases ha
       ·exact cscal_any _ ha)
  ·cases h
 ·split at h
  ·cases h; rfl
  ·cases h
 ·cases h; rfl
section
variable {P:Program} {T:Tys} {B:Nat} {φ:Emb} {H:AHeap} {w:World} {nt:Nat} {t:PT AVal} {a:Act}
theorem write_loud (hT:TOk2 T P) (hH:HRel T B φ H w) (ht:TRel φ nt t a.tmps) {o:Oper} {ao:AOp} (hc:compOp T o.op = some ao) (hq:isQuiet ao = false) {v:AVal} {H':AHeap} (h:write t H ao = some (v,H')) :
  Does P T B φ H w (execOp a.eval o) v H':=by
 have hT1:=hT.toTOk
 generalize ho:o.op = op at hc
 unfold compOp at hc
 split at hc
 ·split at hc
  ·cases hc; simp [isQuiet] at hq
  ·cases hc
 ·split at hc
  ·cases hc; simp [isQuiet] at hq
  ·cases hc
 ·split at hc
  ·cases hc; simp [isQuiet] at hq
  ·cases hc
 ·
  split at hc
  ·rename_i z hz
   cases hc; cases h
   exact (make_alloc hT1 ho hz).does hH false
  ·cases hc
 ·
  split at hc
  ·rename_i ax hx
   cases hc
   simp only [write] at h
   split at h
   ·rename_i vs hv
    cases h
    exact (make_box hH ht ho hx hv).does hH false
   ·cases h
  ·cases hc
 ·
  split at hc
  ·split at hc
   ·cases hc; simp [isQuiet] at hq
   ·cases hc
  ·split at hc
   ·split at hc
    ·cases hc; simp [isQuiet] at hq
    ·cases hc
   ·cases hc
  ·cases hc
 ·
  split at hc
  ·rename_i e hu
   split at hc
   ·rename_i s z hs hz
    split at hc
    ·rename_i aps hp hle
     cases hc
     simp only [write] at h
     split at h
     ·rename_i l hl
      cases h
      exact (make_buildSlice hT hH ht ho hu hs hz hp (Nat.le_of_ble_eq_true hle) hl).does hH false
     ·cases h
    ·cases hc
   ·cases hc
  ·cases hc
 ·
  split at hc
  ·cases hc; simp [isQuiet] at hq
  ·cases hc; simp [isQuiet] at hq
  ·cases hc
 ·
  split at hc
  ·rename_i n ax ay hn hx hy
   cases hc
   simp only [write] at h
   split at h
   ·rename_i b off hb
    split at h
    ·rename_i vs hv
     split at h
     ·rename_i hl
      split at h
      ·rename_i h' hst
       cases h
       exact does_store hT1 hH ht ho hx hy hn hb hv (Nat.eq_of_beq_eq_true hl) hst
      ·cases h
     ·cases h
    ·cases h
   ·cases h
  ·cases hc
 ·split at hc
  ·cases hc; simp [isQuiet] at hq
  ·cases hc
 ·
  split at hc
  ·split at hc
   ·cases hc; simp [isQuiet] at hq
   ·cases hc; simp [isQuiet] at hq
   ·split at hc
    ·cases hc; simp [isQuiet] at hq
    ·cases hc; simp [isQuiet] at hq
    ·cases hc
  ·cases hc
 ·split at hc
  ·cases hc; simp [isQuiet] at hq
  ·cases hc
 ·
  split at hc
  ·cases hc; simp [isQuiet] at hq
  ·cases hc; simp [isQuiet] at hq
  ·rename_i e ax hs hd hx
   split at hc
   ·rename_i he
    cases hc
    simp only [write] at h
    split at h
    ·rename_i s h1
     split at h
     ·rename_i hmx
      cases h
      exact does_strBytes hT1 hH ht ho hx hs hd he h1 (Nat.le_of_ble_eq_true hmx)
     ·cases h
    ·cases h
   ·cases hc
  ·split at hc
   ·cases hc; simp [isQuiet] at hq
   ·cases hc
  ·rename_i e ax hs hd hx
   split at hc
   ·rename_i hsd he
    have hsd:=Nat.eq_of_beq_eq_true hsd
    subst hsd
    cases hc
    simp only [write] at h
    split at h
    ·cases h
    ·rename_i b off len cap k h1
     split at h
     ·rename_i l op hb hcap
      cases h
      have hu:=hd
      exact does_mark hT1 hH ht ho hx hd he h1 (by simpa [Nat.blt_eq] using hcap) hb
     ·cases h
    ·cases h
   ·cases hc
  ·cases hc
 ·
  split at hc
  ·split at hc
   ·split at hc
    ·cases hc; simp [isQuiet] at hq
    ·cases hc
   ·cases hc
  ·cases hc
 ·
  split at hc
  ·split at hc
   ·cases hc; simp [isQuiet] at hq
   ·cases hc
  ·split at hc
   ·cases hc; simp [isQuiet] at hq
   ·cases hc
  ·cases hc
 ·
  split at hc
  ·split at hc
   ·split at hc
    ·cases hc; simp [isQuiet] at hq
    ·cases hc; simp [isQuiet] at hq
    ·cases hc
   ·cases hc
  ·cases hc
 ·
  split at hc
  ·cases hc; simp [isQuiet] at hq
  ·split at hc
   ·cases hc; simp [isQuiet] at hq
   ·cases hc
  ·cases hc
 ·
  split at hc
  ·split at hc
   ·cases hc; simp [isQuiet] at hq
   ·split at hc
    ·cases hc; simp [isQuiet] at hq
    ·cases hc
   ·split at hc
    ·cases hc; simp [isQuiet] at hq
    ·cases hc
   ·cases hc
  ·cases hc
 ·split at hc
  ·cases hc; simp [isQuiet] at hq
  ·cases hc
 ·split at hc
  ·cases hc
  ·cases hc; simp [isQuiet] at hq
  ·cases hc
 ·split at hc
  ·cases hc; simp [isQuiet] at hq
  ·cases hc
 ·
  cases hc; cases h
  exact does_mkMap hH ho
 ·
  split at hc
  ·rename_i e ax ay hu hx hy
   split at hc
   ·rename_i i z hi hz
    cases hc
    simp only [write] at h
    split at h
    ·rename_i l c hl hcc
     split at h
     ·rename_i g1 g2 g3
      cases h
      exact (make_mkSlice hT hH ht ho hx hy hu hi hz hl hcc (Nat.le_of_ble_eq_true g1) (Nat.le_of_ble_eq_true g2) (Nat.le_of_ble_eq_true g3)).does hH false
     ·cases h
    ·cases h
   ·cases hc
  ·cases hc
 ·
  split at hc
  ·split at hc
   ·cases hc; simp [isQuiet] at hq
   ·cases hc
  ·cases hc
 ·
  split at hc
  ·rename_i kt e am ak ax hu hm hk hx
   split at hc
   ·rename_i q hkk
    cases hc
    simp only [write] at h
    split at h
    ·rename_i b h1
     split at h
     ·rename_i es hb
      split at h
      ·rename_i hfit
       split at h
       ·rename_i es' hp
        cases h
        simp only [turnKey,opnd_here hx] at hp
        exact does_mapUpdate hT1 hH ht ho hm hk hx hu hkk h1 hb hfit hp
       ·cases h
      ·cases h
     ·cases h
    ·cases h
   ·cases hc
  ·cases hc
 ·split at hc
  ·cases hc; simp [isQuiet] at hq
  ·cases hc
 ·exact write_call hT hH ht ho hc hq h
 ·
  split at hc
  ·split at hc
   ·cases hc; simp [write,quiet] at h
   ·cases hc
  ·cases hc
 ·cases hc
theorem write_ok (hT:TOk2 T P) (hH:HRel T B φ H w) (ht:TRel φ nt t a.tmps) {o:Oper} {ao:AOp} (hc:compOp T o.op = some ao) {v:AVal} {H':AHeap} (h:write t H ao = some (v,H')) :
  Does P T B φ H w (execOp a.eval o) v H':=by
 cases hq:isQuiet ao with
 | false=>exact write_loud hT hH ht hc hq h
 | true =>
  obtain ⟨h1,rfl⟩:=write_quiet hq h
  obtain ⟨u,h2,h3⟩:=quiet_ok hT hH ht hc h1
  exact ⟨_,u,w,φ,h2,.inl rfl,h3,Sim.refl hH⟩
end
end Go.Am
end
