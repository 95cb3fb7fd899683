/- Part of the proof: AmRecover, AmExt4, AmGrow, AmCount. -/
import Derived.Test.YtaogphcjlkeakaaGreatDoorAm21
import Derived.RecoverIn
import Derived.Laws.AppendOwn
set_option linter.unusedSimpArgs false
set_option linter.unusedVariables false
section
namespace Go.Am
open Go Go.RowKit
def dRec (T:Tys) (nt:Nat) (r0:Code) :List AVal→AHeap→Option AHeap:=fun args h =>
 match args0 args 0 nt .l with
 | some t=>match ev ⟨.l,.l,.l⟩ 3 (comp T nt false r0) none ⟨t,[]⟩ h with
  | some (.normal,⟨_,[]⟩,h')=>some h'
  | _=>none
 | none=>none
section
variable {P:Program} {T:Tys} {B:Nat} {φ:Emb} {H:AHeap} {w:World} {nt:Nat} {t:PT AVal} {a:Act}
theorem EnvOk.empty:EnvOk P T B ⟨.l,.l,.l⟩:=⟨fun f fi _ h=>(by rw [get_nil] at h; cases h),fun f s _ h=>(by rw [get_nil] at h; cases h),fun f s _ h=>(by rw [get_nil] at h; cases h)⟩
theorem dsumOk_recover (hT:TOk2 T P) (hm:P.follows .mixedOrders = true) {f:FuncId} {fn:Func} (hf:P.funcs[f]? = some fn) (hname:(fn.name == "runtime.NumGoroutine") = false) {r0 x:Code} {i1 i2 nt:Nat} {oV oA:Oper} {ops2:Array Oper}
  (hb:fn.body = some (.seq r0 (.seq (.region i1 #[oV,oA] false) (.seq (.region i2 ops2 false) (.cond (.tmp 15) x .skip)))))
  (hnt:fn.ntmps = nt) (hres:compRes T fn.results.toList = some []) (h13:16≤nt) (hlt:nt < 2 ^ 31)
  {ats:Array TypeId} (hV:oV.op = .call { callee:=.builtin .recover,args:=#[],argTypes:=ats }) (hVd:oV.dst = some 13) (hVg:oV.guard = none)
  (hA:oA.op = .assign (.tmp 13)) (hAd:oA.dst = some 3) (hAg:oA.guard = none)
  (c2:compOpers T nt ops2.toList ops2.toList = some [⟨some (Pos.ofNat 14),.move (.t (Pos.ofNat 3)),none⟩,⟨some (Pos.ofNat 15),.eq true (.one .iface) (.t (Pos.ofNat 14)) (.c .inil),none⟩]) :DsumOk P T B f (dRec T nt r0):=by
 intro φ H w args args' H' hH hl h
 unfold dRec at h
 split at h
 rotate_left
 ·cases h
 rename_i t0 ht0
 split at h
 rotate_left
 ·cases h
 rename_i t1 h1 hev
 cases h
 refine ⟨run_callFunc hf hname hb,?_⟩
 refine callsDIn_of_wpSIn hf hb trivial fun c₀ cs hmode=>?_
 rw [hnt]
 have hact:ActRel φ nt ⟨t0,[]⟩ { tmps:=args' ++ Array.replicate (nt - args'.size) undef,defers:=[] }:=act_start ht0 hl hlt
 generalize ({ tmps:=args' ++ Array.replicate (nt - args'.size) undef,defers:=[] } :Act) = a at hact ⊢
 have hw0:=sound (P:=P) (B:=B) hT EnvOk.empty hm 3 r0 nt none none ⟨t0,[]⟩ H φ a w hH hact trivial hev
 refine wpSIn_seq (wpSIn_of_wpIn rfl (wpIn_mono hw0 fun e a1 w1 hp=>?_))
 obtain ⟨rfl,φ1,hS,hact1⟩:=hp
 simp only [exitOf,Exit.thenS]
 refine wpSIn_seq (wpSIn_region ?_)
 show wpOpsSIn _ _ _ _ _ [0,1] _ _ _
 have hrunV:(execOp a1.eval oV).run P w1 = .ok .recover w1:=by
  simp [execOp,hV,resolve,invoke,builtin]
 have hrec:recoverD (c₀ :: cs) = none:=by
  simp [recoverD,hmode]
 have hsz:a1.tmps.size = nt:=hact1.t.1
 have hgV:Region.wanted oV (yielded #[oV,oA] a1.tmps) = true:=by simp [Region.wanted,hVg]
 have e13:Nat.blt 13 nt = true:=by rw [Nat.blt_eq]; omega
 have e3:Nat.blt 3 nt = true:=by rw [Nat.blt_eq]; omega
 have hact2:=hact1.put (o:=oV) (d:=some (Pos.ofNat 13)) (by rw [hVd]; simp only [dstOf,e13]) (v:=.inil) (u:=.nilIface) rfl
 have hact3:=hact2.put (o:=oA) (d:=some (Pos.ofNat 3)) (by rw [hAd]; simp only [dstOf,e3]) (v:=.inil) (u:=.nilIface) rfl
 rw [hVd] at hact2
 rw [hVd,hAd] at hact3
 have hgA:Region.wanted oA (yielded #[oV,oA] (a1.put (some 13) .nilIface).tmps) = true:=by simp [Region.wanted,hAg]
 have hrunA:(execOp (a1.put (some 13) .nilIface).eval oA).run P w1 = .ok (.value .nilIface) w1:=by
  have:(a1.put (some 13) .nilIface).eval (.tmp 13) = .nilIface:=by
   have:13 < nt:=by omega
   simp [Act.eval,Act.put,hsz,this]
  simp [execOp,hA,this]
 have g0:(#[oV,oA] :Array Oper)[0]? = some oV:=rfl
 have g1:(#[oV,oA] :Array Oper)[1]? = some oA:=rfl
 unfold wpOpsSIn
 rw [g0]
 refine ⟨fun f _=>trivial,?_⟩
 rw [if_pos hgV,hrunV]
 show (match recoverD (c₀ :: cs) with | some (v,cs')=>_ | none=>_)
 rw [hrec]
 rw [hVd]
 show wpOpsSIn _ _ _ _ _ [1] _ _ _
 unfold wpOpsSIn
 rw [g1]
 refine ⟨fun f _=>trivial,?_⟩
 rw [if_pos hgA,hrunA]
 show wpOpsSIn _ _ _ _ _ [] _ _ _
 rw [hAd]
 unfold wpOpsSIn
 simp only [Exit.thenS]
 obtain ⟨t2,hq2,g15⟩ :∃ t2,qops H' [⟨some (Pos.ofNat 14),.move (.t (Pos.ofNat 3)),none⟩,⟨some (Pos.ofNat 15),.eq true (.one .iface) (.t (Pos.ofNat 14)) (.c .inil),none⟩] (tput (tput t1 (some (Pos.ofNat 13)) .inil) (some (Pos.ofNat 3)) .inil) = some t2∧tget t2 (Pos.ofNat 15) = .bool false:=by
  refine qcons .inil rfl (qq_move (by simp [AOpnd.ev,tget_puts])) ?_
  refine qcons (.bool false) rfl (by simp [quiet,AOpnd.ev,tget_puts,eqV,eqS]) ?_
  exact qnil (by simp [tget_puts])
 refine wpSIn_seq (wpSIn_of_wpIn rfl (qregion_ok (r:=none) hT c2 hS.rel hact3 hq2 fun a4 hact4=>?_))
 simp only [Exit.thenS]
 have hv15:a4.eval (.tmp 15) = .bool false:=by
  have:=hact4.t.2.2 15 (by decide)
  rw [g15] at this
  exact this
 refine wpSIn_cond hv15 ?_
 rw [if_neg (by simp)]
 refine wpSIn_of_wpIn rfl (wpIn_skip ?_)
 obtain ⟨u,hu,_⟩:=results_run (P:=P) hT.toTOk hS.rel hact4.t hres (l:=[]) rfl
 refine ⟨by have:=hact4.ds; exact this,.returning,?_,u,hu,⟨u,rfl⟩,rfl,φ1,hS⟩
 rw [← hmode]
end
end Go.Am
end

section
namespace Go.Am
open Go Go.RowKit
def fnd (c:Nat) :List Nat→Nat→Int
 | [],_=>.negSucc 0
 | x :: l,n=>match Nat.beq x c with
  | true=>.ofNat n
  | false=>fnd c l (Nat.succ n)
def sIndexByte:List AVal→AHeap→ARes
 | [s,.int .u8 (.ofNat c)],h=>match Nat.blt c 256,bstr h s with
  | true,some s=>some (.int .i64 (fnd c s 0),h)
  | _,_=>none
 | _,_=>none
theorem fnd_eq (c:Nat) (hc:c < 256) :∀ (s:List Nat) (n:Nat),(∀ x ∈ s,x < 256)→fnd c s n = if Go.Lib.indexByte (s.map UInt8.ofNat) (UInt8.ofNat c) == -1 then -1 else Go.Lib.indexByte (s.map UInt8.ofNat) (UInt8.ofNat c) + n
 | [],n,_=>rfl
 | x :: s,n,h=>by
  have hx:=h x (by simp)
  have ih:=fnd_eq c hc s (n + 1) fun y hy=>h y (List.mem_cons_of_mem _ hy)
  have hge:=Go.Lib.indexByte_ge (s.map UInt8.ofNat) (UInt8.ofNat c)
  simp only [List.map_cons,Go.Lib.indexByte,fnd]
  by_cases e:x = c
  ·subst e
   rw [Nat.beq_refl]
   simp
  ·have h1:Nat.beq x c = false:=by
    cases hb:Nat.beq x c with
    | false=>rfl
    | true=>exact absurd (Nat.eq_of_beq_eq_true hb) e
   have h2:¬ ((UInt8.ofNat x == UInt8.ofNat c) = true):=fun h'=>e (ofNat_inj hx hc (by simpa using h'))
   rw [h1,if_neg h2]
   simp only [Nat.succ_eq_add_one,ih]
   by_cases e2:Go.Lib.indexByte (s.map UInt8.ofNat) (UInt8.ofNat c) = -1
   ·simp [e2]
   ·have h3:(Go.Lib.indexByte (s.map UInt8.ofNat) (UInt8.ofNat c) == -1) = false:=by simpa using e2
    rw [h3]
    simp only [Bool.false_eq_true,if_false]
    have h4:(Go.Lib.indexByte (s.map UInt8.ofNat) (UInt8.ofNat c) + 1 == -1) = false:=by
     have:Go.Lib.indexByte (s.map UInt8.ofNat) (UInt8.ofNat c) + 1 ≠ -1:=by omega
     simpa using this
    rw [h4]
    simp only [Bool.false_eq_true,if_false]
    push_cast
    omega
theorem ib_unfold (b c:Value) :Extern.BytealgIndexByte.indexByte #[b,c] = (do
  let b ← Extern.Bytes.bytesOf b
  let c ← Extern.Bytes.asByte c
  match (List.range b.size).find? fun i=>b[i]! == c with
  | some i=>pure (goInt i)
  | none=>pure (goInt (-1))):=rfl
theorem sumOk_indexByte {P:Program} {T:Tys} {B:Nat} {f:FuncId} {fn:Func} (hf:P.funcs[f]? = some fn) (hname:(fn.name == "runtime.NumGoroutine") = false) (hb:fn.body.isNone = true) (hn:Extern.findNext fn = none)
  (he:Extern.find fn = some Extern.BytealgIndexByte.indexByte) :SumOk P T B f sIndexByte:=by
 intro φ H w args args' v H' hH hl h
 unfold sIndexByte at h
 split at h
 ·rename_i s c
  split at h
  ·rename_i s' hc hs
   have hc:c < 256:=by simpa [Nat.blt_eq] using hc
   cases h
   obtain ⟨u1,r1,e1,h1,u2,r2,e2,h2,e3⟩:=hl
   subst e2
   have e3:r2 = []:=e3
   subst e3
   obtain ⟨hbo,hlt⟩:=bstr_ok (P:=P) hH h1 hs
   have e5:u2 = .int .u8 (c:Nat):=h2
   have ha:args' = #[u1,.int .u8 (c:Nat)]:=by
    apply Array.ext'
    rw [e1,e5]
   refine .inr ⟨.int .i64 (fnd c s' 0),w,φ,?_,rfl,Sim.refl hH⟩
   rw [run_callFunc_extern hf hname hb hn he,ha]
   have hsame:(Extern.BytealgIndexByte.indexByte #[u1,.int .u8 (c:Nat)]).run P w = (Extern.BytealgIndexByte.indexByte #[.string (strV s'),.int .u8 (c:Nat)]).run P w:=by
    have hbo2:(Extern.Bytes.bytesOf (.string (strV s'))).run P w = .ok (strV s') w:=by simp [Extern.Bytes.bytesOf]
    rw [ib_unfold,ib_unfold]
    simp only [Sem.run_bind,hbo,hbo2,Result.andThen_ok]
   have hrun:(Extern.BytealgIndexByte.indexByte #[u1,.int .u8 (c:Nat)]).run P w = .ok (.int .i64 (fnd c s' 0)) w:=by
    rw [hsame,Go.Lib.run_indexByteString]
    have hcc:((c:Int).toNat.toUInt8) = UInt8.ofNat c:=by simp [Nat.toUInt8]
    rw [hcc]
    have h0:=fnd_eq c hc s' 0 hlt
    have hd:(strV s').data.toList = s'.map UInt8.ofNat:=rfl
    rw [h0,hd]
    by_cases e2:Go.Lib.indexByte (s'.map UInt8.ofNat) (UInt8.ofNat c) = -1
    ·simp [e2]
    ·have h3:(Go.Lib.indexByte (s'.map UInt8.ofNat) (UInt8.ofNat c) == -1) = false:=by simpa using e2
     rw [h3]
     simp
   rw [hrun]
   rfl
  ·cases h
 ·cases h
end Go.Am
end

section
namespace Go.Am
open Go Go.RowKit
section
variable {P:Program} {T:Tys} {B:Nat} {φ:Emb} {H:AHeap} {w:World}
end
end Go.Am
end

section
namespace Go.Am
open Go Go.RowKit
def sCount:List AVal→AHeap→ARes
 | [s,.int .u8 (.ofNat c)],h=>match Nat.blt c 256,bstr h s with
  | true,some s=>some (.int .i64 (.ofNat (cnt c s 0)),h)
  | _,_=>none
 | _,_=>none
theorem ct_unfold (b c:Value) :Extern.BytealgCount.count #[b,c] = (do
  let b ← Extern.Bytes.bytesOf b
  let c ← Extern.Bytes.asByte c
  pure (goInt (b.foldl (fun n x=>if x == c then n + 1 else n) (0:Nat)))):=rfl
theorem sumOk_count {P:Program} {T:Tys} {B:Nat} {f:FuncId} {fn:Func} (hf:P.funcs[f]? = some fn) (hname:(fn.name == "runtime.NumGoroutine") = false) (hb:fn.body.isNone = true) (hn:Extern.findNext fn = none)
  (he:Extern.find fn = some Extern.BytealgCount.count) :SumOk P T B f sCount:=by
 intro φ H w args args' v H' hH hl h
 unfold sCount at h
 split at h
 ·rename_i s c
  split at h
  ·rename_i s' hc hs
   have hc:c < 256:=by simpa [Nat.blt_eq] using hc
   cases h
   obtain ⟨u1,r1,e1,h1,u2,r2,e2,h2,e3⟩:=hl
   subst e2
   have e3:r2 = []:=e3
   subst e3
   obtain ⟨hbo,hlt⟩:=bstr_ok (P:=P) hH h1 hs
   have e5:u2 = .int .u8 (c:Nat):=h2
   have ha:args' = #[u1,.int .u8 (c:Nat)]:=by
    apply Array.ext'
    rw [e1,e5]
   refine .inr ⟨.int .i64 (cnt c s' 0:Nat),w,φ,?_,rfl,Sim.refl hH⟩
   rw [run_callFunc_extern hf hname hb hn he,ha]
   have hsame:(Extern.BytealgCount.count #[u1,.int .u8 (c:Nat)]).run P w = (Extern.BytealgCount.count #[.string (strV s'),.int .u8 (c:Nat)]).run P w:=by
    have hbo2:(Extern.Bytes.bytesOf (.string (strV s'))).run P w = .ok (strV s') w:=by simp [Extern.Bytes.bytesOf]
    rw [ct_unfold,ct_unfold]
    simp only [Sem.run_bind,hbo,hbo2,Result.andThen_ok]
   have hcount:(Extern.BytealgCount.count #[u1,.int .u8 (c:Nat)]).run P w = .ok (.int .i64 (cnt c s' 0:Nat)) w:=by
    have hcc:((c:Int).toNat.toUInt8) = UInt8.ofNat c:=by simp [Nat.toUInt8]
    have h0:=cnt_eq c hc s' 0 hlt
    rw [hsame,Go.Lib.run_countString,hcc,h0,Nat.zero_add]
    rfl
   rw [hcount]
   rfl
  ·cases h
 ·cases h
end Go.Am
end
