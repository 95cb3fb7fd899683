import Derived.Test.YtepncpggenncoaaGreatDoorAm13
import Derived.Sort.KeysCollected
import Derived.Laws.AppendOwn
import Derived.RecoverIn
set_option linter.unusedSimpArgs false
set_option linter.unusedVariables false
set_option maxHeartbeats 8000000
section
namespace Go.Am
open Go Go.RowKit
def j70{R:Type}(n:Nat)(k:Nat->R) :R :=
 match n with
 | 0=>k 0
 | m+1=>k (Nat.succ m)
theorem z30{R:Type}(n:Nat)(k:Nat->R) :j70 n k=k n:=by cases n<;>rfl
def u8x(a b:Nat) :Nat:=Nat.mod (Nat.mod (Nat.xor a b) 256) 256
def u8a(a b:Nat) :Nat:=Nat.mod (Nat.mod (Nat.land a b) 256) 256
def u32x(a b:Nat) :Nat:=Nat.mod (Nat.mod (Nat.xor a b) 4294967296) 4294967296
def z8x(l:List AVal)(x n:Nat) :Option Nat :=
 j70 (u8x (Nat.mod (Nat.div x 268435456) 256) n) fun i=>match Nat.blt i 16 with
  | true=>match lget l (Nat.add 0 (Nat.mul i 1))with
   | some (.int .u32 (.ofNat t))=>some (u32x (Nat.mod (Nat.mul x 16) 4294967296) t)
   | _=>none
  | false=>none
def z8y(l:List AVal) :List AVal->Nat->Option Nat
 | [],x=>some x
 | .int .u8 (.ofNat y)::bs,x=>match z8x l x (Nat.div y 16)with
  | some x1=>j70 x1 fun x1=>match z8x l x1 (u8a y 15)with
   | some x2=>j70 x2 fun x2=>z8y l bs x2
   | none=>none
  | none=>none
 | _::_,_=>none
def z7h(h:AHeap) :AVal->Option (List AVal)
 | .snil=>some []
 | .sl b o len _ _=>match Nat.ble len 9223372036854775807 with
  | true=>z0t h b o len
  | false=>none
 | _=>none
def sCrc(g:Pos) :List AVal->AHeap->ARes
 | [.int .u32 (.ofNat c),s],h=>match PT.get g h.t with
  | some (.cells l _ _)=>match z7h h s with
   | some bs=>match j70 (u32x 4294967295 c) fun x=>z8y l bs x with
    | some y=>some (.int .u32 (.ofNat (u32x 4294967295 y)),h)
    | none=>none
   | none=>none
  | _=>none
 | _,_=>none
theorem j3z{h:AHeap}{b:Pos}{o n:Nat}{l:List AVal}(e:z0t h b o n=some l){i:Nat}{v:AVal}(hi:l[i]? = some v) :z04 h b (Nat.add o (Nat.mul i 1))=some v:=by
 unfold z0t at e
 unfold z04
 split at e
 .rename_i cs _ _ hg
  try rw[hg]
  obtain⟨rfl,_⟩:=z9d e
  rw[z5x]
  have e1:Nat.add o (Nat.mul i 1)=o+i:=by show o+i*1=_;omega
  rw[e1]
  rw[List.getElem?_take]at hi
  split at hi
  .rw[List.getElem?_drop]at hi;exact hi
  .cases hi
 .cases e
section
variable{P:Program}{T:Tys}{B:Nat}{φ:Emb}{H:AHeap}{w:World}{nt:Nat}{t:PT AVal}{a:Act}
theorem y4w{l:List AVal}{x n r:Nat}(h:z8x l x n=some r) :Nat.blt (u8x (Nat.mod (Nat.div x 268435456) 256) n) 16=true/\∃ tv,lget l (Nat.add 0 (Nat.mul (u8x (Nat.mod (Nat.div x 268435456) 256) n) 1))=some (.int .u32 (.ofNat tv))/\r=u32x (Nat.mod (Nat.mul x 16) 4294967296) tv:=by
 unfold z8x at h
 rw[z30]at h
 split at h
 .rename_i hb
  split at h
  .rename_i tv ht
   cases h
   exact⟨hb,tv,ht,rfl⟩
  .cases h
 .cases h
theorem j99{l:List AVal}{v:AVal}{bs:List AVal}{x r:Nat}(h:z8y l (v::bs) x=some r) :∃ y x1 x2,v=.int .u8 (.ofNat y)/\z8x l x (Nat.div y 16)=some x1/\z8x l x1 (u8a y 15)=some x2/\z8y l bs x2=some r:=by
 unfold z8y at h
 split at h
 .rename_i heq;cases heq
 .rename_i y bs' heq
  cases heq
  split at h
  .rename_i x1 h1
   rw[z30]at h
   split at h
   .rename_i x2 h2
    rw[z30]at h
    exact⟨y,x1,x2,rfl,h1,h2,h⟩
   .cases h
  .cases h
 .cases h
theorem z5d{op:BinOp}{x y:AOpnd}{vx vy v:AVal}(hx:x.ev t=vx)(hy:y.ev t=vy)(h:z0l op vx vy=some v) :quiet t H (.bin op x y)=some v:=by
 simp only[quiet,hx,hy,h]
theorem y64{k:IntKind}{x:AOpnd}{q:IntKind}{n:Int}(hx:x.ev t=.int q n) :quiet t H (.conv (.toInt k) x)=some (.int k (z1n k n)):=by
 simp only[quiet,hx]
theorem j4w{x:AOpnd}{b:Pos}{o:Nat}{v:AVal}(hx:x.ev t=.ptr b o)(h:z04 H b o=some v) :quiet t H (.load1 x)=some v:=by
 simp only[quiet,hx,h]
theorem y63{n sz:Nat}{x i:AOpnd}{b:Pos}{o j:Nat}{q:IntKind}(hx:x.ev t=.ptr b o)(hi:i.ev t=.int q (.ofNat j))(h:Nat.blt j n=true) :quiet t H (.idxA n sz x i)=some (.ptr b (Nat.add o (Nat.mul j sz))):=by
 simp only[quiet,hx,hi,z3j,h]
theorem q6j{sz:Nat}{x i:AOpnd}{b:Pos}{o len c s j:Nat}{q:IntKind}(hx:x.ev t=.sl b o len c s)(hi:i.ev t=.int q (.ofNat j))(h:Nat.blt j len=true) :quiet t H (.idxS sz x i)=some (.ptr b (Nat.add o (Nat.mul j sz))):=by
 simp only[quiet,hx,hi,z3j,h]
theorem z2n{x:AOpnd}{v:AVal}(hx:x.ev t=v) :quiet t H (.move x)=some v:=by simp only[quiet,hx]
theorem q4m{l:List AVal}{op ro:Bool}{g:Pos}(hg:PT.get g H.t=some (.cells l op ro)){x n r:Nat}(h:z8x l x n=some r){i:Nat}(hi:i=u8x (Nat.mod (Nat.div x 268435456) 256) n) :
  Nat.blt i 16=true/\∃ tv,z04 H g (Nat.add 0 (Nat.mul i 1))=some (.int .u32 (.ofNat tv))/\r=u32x (Nat.mod (Nat.mul x 16) 4294967296) tv:=by
 subst hi
 obtain⟨h1,tv,h2,h3⟩:=y4w h
 refine⟨h1,tv,?_,h3⟩
 unfold z04
 rw[hg]
 exact h2
theorem y5v(hT:TOk2 T P){f:FuncId}{fn:Func}(hf:P.funcs[f]? = some fn)(hname:(fn.name == "runtime.NumGoroutine")=false){g:Pos}{i0 i1 i2 i3 i4 i5 i6 i7 i8 b0 b1:Nat}{ops0 ops1 ops2 ops3 ops4 ops5 ops6 ops7 ops8:Array Oper}
  (hb:fn.body=some (.seq (.region i0 ops0 false) (.seq (.region i1 ops1 false) (.seq (.seq (.region i2 ops2 false)
   (.block b0 (.loop (.seq (.region i3 ops3 false) (.seq (.cond (.tmp 13) .skip (.exit b0)) (.seq (.block b1 (.seq (.region i4 ops4 false) (.seq (.region i5 ops5 false) (.region i6 ops6 false)))) (.region i7 ops7 false))))))) (.seq (.region i8 ops8 false) .ret)))))
  (hnt:fn.ntmps=41) (hres:z2q T fn.results.toList=some [(Pos.ofNat 4,none)])
  (c0:z0n T 41 ops0.toList ops0.toList=some [⟨some (Pos.ofNat 4),.move (.c (.int .u32 0)),none⟩])
  (c1:z0n T 41 ops1.toList ops1.toList=some [⟨some (Pos.ofNat 8),.move (.t (Pos.ofNat 0)),none⟩,⟨some (Pos.ofNat 9),.un .xor (.t (Pos.ofNat 8)),none⟩,⟨some (Pos.ofNat 5),.move (.t (Pos.ofNat 9)),none⟩])
  (c2:z0n T 41 ops2.toList ops2.toList=some [⟨some (Pos.ofNat 10),.move (.t (Pos.ofNat 1)),none⟩,⟨some (Pos.ofNat 11),.len 1 (.t (Pos.ofNat 10)),none⟩,⟨some (Pos.ofNat 12),.move (.c (.int .i64 0)),none⟩])
  (c3:z0n T 41 ops3.toList ops3.toList=some [⟨some (Pos.ofNat 13),.bin .lss (.t (Pos.ofNat 12)) (.t (Pos.ofNat 11)),none⟩])
  (c4:z0n T 41 ops4.toList ops4.toList=some [⟨some (Pos.ofNat 14),.idxS 1 (.t (Pos.ofNat 10)) (.t (Pos.ofNat 12)),none⟩,⟨some (Pos.ofNat 15),.load1 (.t (Pos.ofNat 14)),none⟩,⟨some (Pos.ofNat 7),.move (.t (Pos.ofNat 15)),none⟩])
  (c5:z0n T 41 ops5.toList ops5.toList=some [⟨some (Pos.ofNat 16),.move (.t (Pos.ofNat 5)),none⟩,⟨some (Pos.ofNat 17),.bin .shl (.t (Pos.ofNat 16)) (.c (.int .u64 4)),none⟩,⟨some (Pos.ofNat 18),.move (.t (Pos.ofNat 5)),none⟩,⟨some (Pos.ofNat 19),.bin .shr (.t (Pos.ofNat 18)) (.c (.int .u64 28)),none⟩,
   ⟨some (Pos.ofNat 20),.conv (.toInt .u8) (.t (Pos.ofNat 19)),none⟩,⟨some (Pos.ofNat 21),.move (.t (Pos.ofNat 7)),none⟩,⟨some (Pos.ofNat 22),.bin .shr (.t (Pos.ofNat 21)) (.c (.int .u64 4)),none⟩,⟨some (Pos.ofNat 23),.bin .xor (.t (Pos.ofNat 20)) (.t (Pos.ofNat 22)),none⟩,
   ⟨some (Pos.ofNat 24),.idxA 16 1 (.c (.ptr g 0)) (.t (Pos.ofNat 23)),none⟩,⟨some (Pos.ofNat 25),.load1 (.t (Pos.ofNat 24)),none⟩,⟨some (Pos.ofNat 26),.bin .xor (.t (Pos.ofNat 17)) (.t (Pos.ofNat 25)),none⟩,⟨some (Pos.ofNat 5),.move (.t (Pos.ofNat 26)),none⟩])
  (c6:z0n T 41 ops6.toList ops6.toList=some [⟨some (Pos.ofNat 27),.move (.t (Pos.ofNat 5)),none⟩,⟨some (Pos.ofNat 28),.bin .shl (.t (Pos.ofNat 27)) (.c (.int .u64 4)),none⟩,⟨some (Pos.ofNat 29),.move (.t (Pos.ofNat 5)),none⟩,⟨some (Pos.ofNat 30),.bin .shr (.t (Pos.ofNat 29)) (.c (.int .u64 28)),none⟩,
   ⟨some (Pos.ofNat 31),.conv (.toInt .u8) (.t (Pos.ofNat 30)),none⟩,⟨some (Pos.ofNat 32),.move (.t (Pos.ofNat 7)),none⟩,⟨some (Pos.ofNat 33),.bin .and (.t (Pos.ofNat 32)) (.c (.int .u8 15)),none⟩,⟨some (Pos.ofNat 34),.bin .xor (.t (Pos.ofNat 31)) (.t (Pos.ofNat 33)),none⟩,
   ⟨some (Pos.ofNat 35),.idxA 16 1 (.c (.ptr g 0)) (.t (Pos.ofNat 34)),none⟩,⟨some (Pos.ofNat 36),.load1 (.t (Pos.ofNat 35)),none⟩,⟨some (Pos.ofNat 37),.bin .xor (.t (Pos.ofNat 28)) (.t (Pos.ofNat 36)),none⟩,⟨some (Pos.ofNat 5),.move (.t (Pos.ofNat 37)),none⟩])
  (c7:z0n T 41 ops7.toList ops7.toList=some [⟨some (Pos.ofNat 38),.bin .add (.t (Pos.ofNat 12)) (.c (.int .i64 1)),none⟩,⟨some (Pos.ofNat 12),.move (.t (Pos.ofNat 38)),none⟩])
  (c8:z0n T 41 ops8.toList ops8.toList=some [⟨some (Pos.ofNat 39),.move (.t (Pos.ofNat 5)),none⟩,⟨some (Pos.ofNat 40),.un .xor (.t (Pos.ofNat 39)),none⟩,⟨some (Pos.ofNat 4),.move (.t (Pos.ofNat 40)),none⟩]) :z2k P T B f (sCrc g):=by
 intro φ H w args args' v H' hH hl h
 unfold sCrc at h
 split at h
 rotate_left
 .cases h
 rename_i c s
 split at h
 rotate_left
 .cases h
 rename_i l op ro hg
 split at h
 rotate_left
 .cases h
 rename_i bs hbs
 rw[z30]at h
 split at h
 rotate_left
 .cases h
 rename_i y hy
 simp only[Option.some.injEq,Prod.mk.injEq]at h
 obtain⟨rfl,rfl⟩:=h
 have hlen:∀ tt:PT AVal,tget tt (Pos.ofNat 10)=s->quiet tt H (.len 1 (.t (Pos.ofNat 10)))=some (.int .i64 (.ofNat bs.length)):=by
  intro tt htt
  unfold z7h at hbs
  split at hbs
  .cases hbs;simp[quiet,AOpnd.ev,htt]
  .rename_i b o len cp sz
   split at hbs
   .have:=z2g hbs
    simp[quiet,AOpnd.ev,htt,this]
   .cases hbs
  .cases hbs
 have hread:∀ (i:Nat) (vv:AVal),bs[i]? = some vv->∃ b o len cp sz,s=.sl b o len cp sz/\Nat.blt i len=true/\z04 H b (Nat.add o (Nat.mul i 1))=some vv:=by
  intro i vv hi
  unfold z7h at hbs
  split at hbs
  .cases hbs;simp at hi
  .rename_i b o len cp sz
   split at hbs
   .have h1:=z2g hbs
    have h2:i<bs.length:=by
     rcases Nat.lt_or_ge i bs.length with h | h
     .exact h
     .rw[List.getElem?_eq_none h]at hi;cases hi
    exact⟨b,o,len,cp,sz,rfl,by rw[Nat.blt_eq];omega,j3z hbs hi⟩
   .cases hbs
  .cases hbs
 have hmax:bs.length<=9223372036854775807:=by
  unfold z7h at hbs
  split at hbs
  .cases hbs;simp
  .rename_i b o len cp sz
   split at hbs
   .rename_i hle
    have h1:=z2g hbs
    have:len<=9223372036854775807:=Nat.le_of_ble_eq_true hle
    omega
   .cases hbs
  .cases hbs
 refine .inl ?_
 refine z3g (l:=[.int .u32 (.ofNat (u32x 4294967295 y))]) (ex:=.ret) hT hf hname hb hres (.inr rfl) ?_
 rw[hnt]
 have hact:ActRel φ 41 ⟨tput (tput .l (some (Pos.ofNat 0)) (.int .u32 (.ofNat c))) (some (Pos.ofNat 1)) s,[]⟩ { tmps:=args'++Array.replicate (41-args'.size) undef,defers:=[] }:=z5k rfl hl (by decide)
 generalize ({ tmps:=args'++Array.replicate (41-args'.size) undef,defers:=[] } :Act)=a at hact ⊢
 refine wpIn_seq (z1f hT c0 hH hact rfl fun a1 hact=>?_)
 obtain⟨t1,hq1,g1,g5⟩ :∃ t1,qops H [⟨some (Pos.ofNat 8),.move (.t (Pos.ofNat 0)),none⟩,⟨some (Pos.ofNat 9),.un .xor (.t (Pos.ofNat 8)),none⟩,⟨some (Pos.ofNat 5),.move (.t (Pos.ofNat 9)),none⟩] (tput (tput (tput .l (some (Pos.ofNat 0)) (.int .u32 (.ofNat c))) (some (Pos.ofNat 1)) s) (some (Pos.ofNat 4)) (.int .u32 0))=some t1 ∧
   tget t1 (Pos.ofNat 1)=s/\tget t1 (Pos.ofNat 5)=.int .u32 (.ofNat (u32x 4294967295 c)):=by
  refine z02 (.int .u32 (.ofNat c)) rfl (z2n (by simp[AOpnd.ev,z0e])) ?_
  refine z02 (.int .u32 (.ofNat (u32x 4294967295 c))) rfl ?_ ?_
  .have e:(AOpnd.t (Pos.ofNat 8)).ev (tput (tput (tput (tput .l (some (Pos.ofNat 0)) (.int .u32 (.ofNat c))) (some (Pos.ofNat 1)) s) (some (Pos.ofNat 4)) (.int .u32 0)) (some (Pos.ofNat 8)) (.int .u32 (.ofNat c)))=.int .u32 (.ofNat c):=by simp[AOpnd.ev,z0e]
   simp only[quiet,e]
   rfl
  refine z02 (.int .u32 (.ofNat (u32x 4294967295 c))) rfl (z2n (by simp[AOpnd.ev,z0e])) ?_
  refine qnil ⟨?_,?_⟩<;>simp[z0e]
 refine wpIn_seq (z1f hT c1 hH hact hq1 fun a2 hact=>?_)
 obtain⟨t2,hq2,r10,r11,r12,r5⟩ :∃ t2,qops H [⟨some (Pos.ofNat 10),.move (.t (Pos.ofNat 1)),none⟩,⟨some (Pos.ofNat 11),.len 1 (.t (Pos.ofNat 10)),none⟩,⟨some (Pos.ofNat 12),.move (.c (.int .i64 0)),none⟩] t1=some t2 ∧
   tget t2 (Pos.ofNat 10)=s/\tget t2 (Pos.ofNat 11)=.int .i64 (.ofNat bs.length)/\tget t2 (Pos.ofNat 12)=.int .i64 (.ofNat 0)/\tget t2 (Pos.ofNat 5)=.int .u32 (.ofNat (u32x 4294967295 c)):=by
  refine z02 s rfl (z2n (by simp[AOpnd.ev,g1])) ?_
  refine z02 (.int .i64 (.ofNat bs.length)) rfl (hlen _ (by simp[z0e])) ?_
  refine z02 (.int .i64 0) rfl (z2n rfl) ?_
  refine qnil ⟨?_,?_,?_,?_⟩<;>simp[z0e,g5]
 refine wpIn_seq (wpIn_seq (z1f hT c2 hH hact hq2 fun a3 hact=>?_))
 refine wpIn_block (wpIn_loop_rounds (bs.length+1) ?_)
 have hcc:z8y l (bs.drop 0) (u32x 4294967295 c)=some y:=by simpa using hy
 obtain⟨k,hk⟩ :∃ k,k=bs.length:=⟨_,rfl⟩
 rw[<-hk]
 have hik:0+k=bs.length:=by omega
 clear hk hq2 hq1 c0 c1 c2 hb g1 g5
 generalize u32x 4294967295 c=x at r5 hcc hy
 clear hy
 obtain⟨i,hi0⟩ :∃ i:Nat,i=0:=⟨0,rfl⟩
 rw[<-hi0]at r12 hcc hik
 clear hi0
 induction k generalizing i t2 x a3 with
  | zero =>
   have hi:i=bs.length:=by omega
   subst hi
   rw[roundsIn_succ]
   obtain⟨t3,hq3,z13,z5⟩ :∃ t3,qops H [⟨some (Pos.ofNat 13),.bin .lss (.t (Pos.ofNat 12)) (.t (Pos.ofNat 11)),none⟩] t2=some t3/\tget t3 (Pos.ofNat 13)=.bool false/\tget t3 (Pos.ofNat 5)=.int .u32 (.ofNat x):=by
    refine z02 (.bool false) rfl (z5d r12 r11 ?_) ?_
    .show some (AVal.bool (Nat.blt bs.length bs.length))=_
     have:Nat.blt bs.length bs.length=false:=by
      cases hbb:Nat.blt bs.length bs.length with
      | false=>rfl
      | true=>rw[Nat.blt_eq]at hbb;omega
     rw[this]
    .refine qnil ⟨?_,?_⟩<;>simp[z0e,r5]
   refine wpIn_seq (z1f hT c3 hH hact hq3 fun a4 hact4=>?_)
   have hv13:a4.eval (.tmp 13)=.bool false:=by
    have:=hact4.t.2.2 13 (by decide)
    rw[z13]at this
    exact this
   refine wpIn_seq (wpIn_cond_false hv13 (wpIn_exit ?_))
   simp only[Exit.then,Exit.inBlock,if_true]
   have hxy:x=y:=by simpa[z8y]using hcc
   subst hxy
   obtain⟨t4,hq4,z4⟩ :∃ t4,qops H [⟨some (Pos.ofNat 39),.move (.t (Pos.ofNat 5)),none⟩,⟨some (Pos.ofNat 40),.un .xor (.t (Pos.ofNat 39)),none⟩,⟨some (Pos.ofNat 4),.move (.t (Pos.ofNat 40)),none⟩] t3=some t4/\tget t4 (Pos.ofNat 4)=.int .u32 (.ofNat (u32x 4294967295 x)):=by
    refine z02 (.int .u32 (.ofNat x)) rfl (z2n z5) ?_
    refine z02 (.int .u32 (.ofNat (u32x 4294967295 x))) rfl ?_ ?_
    .have e:(AOpnd.t (Pos.ofNat 39)).ev (tput t3 (some (Pos.ofNat 39)) (.int .u32 (.ofNat x)))=.int .u32 (.ofNat x):=by simp[AOpnd.ev,z0e]
     simp only[quiet,e]
     rfl
    refine z02 (.int .u32 (.ofNat (u32x 4294967295 x))) rfl (z2n (by simp[AOpnd.ev,z0e])) ?_
    exact qnil (by simp[z0e])
   refine wpIn_seq (z1f hT c8 hH hact4 hq4 fun a5 hact5=>?_)
   refine wpIn_ret ⟨t4,?_,rfl,φ,Sim.refl hH,hact5⟩
   simp[z0u,z4]
  | succ k ih =>
   have hlt:i<bs.length:=by omega
   rw[roundsIn_succ]
   obtain⟨t3,hq3,z13,z5,z10,z11,z12⟩ :∃ t3,qops H [⟨some (Pos.ofNat 13),.bin .lss (.t (Pos.ofNat 12)) (.t (Pos.ofNat 11)),none⟩] t2=some t3/\tget t3 (Pos.ofNat 13)=.bool true/\tget t3 (Pos.ofNat 5)=.int .u32 (.ofNat x)/\tget t3 (Pos.ofNat 10)=s/\tget t3 (Pos.ofNat 11)=.int .i64 (.ofNat bs.length)/\tget t3 (Pos.ofNat 12)=.int .i64 (.ofNat i):=by
    refine z02 (.bool true) rfl (z5d r12 r11 ?_) ?_
    .show some (AVal.bool (Nat.blt i bs.length))=_
     have:Nat.blt i bs.length=true:=by rw[Nat.blt_eq];exact hlt
     rw[this]
    .refine qnil ⟨?_,?_,?_,?_,?_⟩<;>simp[z0e,r5,r10,r11,r12]
   refine wpIn_seq (z1f hT c3 hH hact hq3 fun a4 hact4=>?_)
   have hv13:a4.eval (.tmp 13)=.bool true:=by
    have:=hact4.t.2.2 13 (by decide)
    rw[z13]at this
    exact this
   refine wpIn_seq (wpIn_cond_true hv13 (wpIn_skip ?_))
   simp only[Exit.then]
   rw[show bs.drop i=bs[i]::bs.drop (i+1)from List.drop_eq_getElem_cons hlt]at hcc
   obtain⟨yb,x1,x2,hyb,hx1,hx2,hc'⟩:=j99 hcc
   obtain⟨b,o,len,cp,sz,hs,hil,hld⟩:=hread i (.int .u8 (.ofNat yb)) (by rw[List.getElem?_eq_getElem hlt,hyb])
   obtain⟨n1,tv1,n2,n3⟩:=q4m hg hx1 rfl
   obtain⟨m1,tv2,m2,m3⟩:=q4m hg hx2 rfl
   refine wpIn_seq (wpIn_block ?_)
   obtain⟨t4,hq4,u5,u7,u10,u11,u12⟩ :∃ t4,qops H [⟨some (Pos.ofNat 14),.idxS 1 (.t (Pos.ofNat 10)) (.t (Pos.ofNat 12)),none⟩,⟨some (Pos.ofNat 15),.load1 (.t (Pos.ofNat 14)),none⟩,⟨some (Pos.ofNat 7),.move (.t (Pos.ofNat 15)),none⟩] t3=some t4 ∧
     tget t4 (Pos.ofNat 5)=.int .u32 (.ofNat x)/\tget t4 (Pos.ofNat 7)=.int .u8 (.ofNat yb)/\tget t4 (Pos.ofNat 10)=s/\tget t4 (Pos.ofNat 11)=.int .i64 (.ofNat bs.length)/\tget t4 (Pos.ofNat 12)=.int .i64 (.ofNat i):=by
    refine z02 _ rfl (q6j (z10.trans hs) z12 hil) ?_
    refine z02 _ rfl (j4w (b:=b) (o:=Nat.add o (Nat.mul i 1)) (by simp[AOpnd.ev,z0e]) hld) ?_
    refine z02 (.int .u8 (.ofNat yb)) rfl (z2n (by simp[AOpnd.ev,z0e])) ?_
    refine qnil ⟨?_,?_,?_,?_,?_⟩<;>simp[z0e,z5,z10,z11,z12]
   refine wpIn_seq (z1f hT c4 hH hact4 hq4 fun a5 hact5=>?_)
   obtain⟨t5,hq5,v5,v7,v10,v11,v12⟩ :∃ t5,qops H [⟨some (Pos.ofNat 16),.move (.t (Pos.ofNat 5)),none⟩,⟨some (Pos.ofNat 17),.bin .shl (.t (Pos.ofNat 16)) (.c (.int .u64 4)),none⟩,⟨some (Pos.ofNat 18),.move (.t (Pos.ofNat 5)),none⟩,⟨some (Pos.ofNat 19),.bin .shr (.t (Pos.ofNat 18)) (.c (.int .u64 28)),none⟩,
     ⟨some (Pos.ofNat 20),.conv (.toInt .u8) (.t (Pos.ofNat 19)),none⟩,⟨some (Pos.ofNat 21),.move (.t (Pos.ofNat 7)),none⟩,⟨some (Pos.ofNat 22),.bin .shr (.t (Pos.ofNat 21)) (.c (.int .u64 4)),none⟩,⟨some (Pos.ofNat 23),.bin .xor (.t (Pos.ofNat 20)) (.t (Pos.ofNat 22)),none⟩,
     ⟨some (Pos.ofNat 24),.idxA 16 1 (.c (.ptr g 0)) (.t (Pos.ofNat 23)),none⟩,⟨some (Pos.ofNat 25),.load1 (.t (Pos.ofNat 24)),none⟩,⟨some (Pos.ofNat 26),.bin .xor (.t (Pos.ofNat 17)) (.t (Pos.ofNat 25)),none⟩,⟨some (Pos.ofNat 5),.move (.t (Pos.ofNat 26)),none⟩] t4=some t5 ∧
     tget t5 (Pos.ofNat 5)=.int .u32 (.ofNat x1)/\tget t5 (Pos.ofNat 7)=.int .u8 (.ofNat yb)/\tget t5 (Pos.ofNat 10)=s/\tget t5 (Pos.ofNat 11)=.int .i64 (.ofNat bs.length)/\tget t5 (Pos.ofNat 12)=.int .i64 (.ofNat i):=by
    refine z02 (.int .u32 (.ofNat x)) rfl (z2n u5) ?_
    refine z02 (.int .u32 (.ofNat (Nat.mod (Nat.mul x 16) 4294967296))) rfl (z5d (vx:=.int .u32 (.ofNat x)) (by simp[AOpnd.ev,z0e]) rfl rfl) ?_
    refine z02 (.int .u32 (.ofNat x)) rfl (z2n (by simp[AOpnd.ev,z0e,u5])) ?_
    refine z02 (.int .u32 (.ofNat (Nat.div x 268435456))) rfl (z5d (vx:=.int .u32 (.ofNat x)) (by simp[AOpnd.ev,z0e]) rfl rfl) ?_
    refine z02 (.int .u8 (.ofNat (Nat.mod (Nat.div x 268435456) 256))) rfl (y64 (q:=.u32) (n:=.ofNat (Nat.div x 268435456)) (by simp[AOpnd.ev,z0e])) ?_
    refine z02 (.int .u8 (.ofNat yb)) rfl (z2n (by simp[AOpnd.ev,z0e,u7])) ?_
    refine z02 (.int .u8 (.ofNat (Nat.div yb 16))) rfl (z5d (vx:=.int .u8 (.ofNat yb)) (by simp[AOpnd.ev,z0e]) rfl rfl) ?_
    refine z02 (.int .u8 (.ofNat (u8x (Nat.mod (Nat.div x 268435456) 256) (Nat.div yb 16)))) rfl (z5d (vx:=.int .u8 (.ofNat (Nat.mod (Nat.div x 268435456) 256))) (vy:=.int .u8 (.ofNat (Nat.div yb 16))) (by simp[AOpnd.ev,z0e]) (by simp[AOpnd.ev,z0e]) rfl) ?_
    refine z02 _ rfl (y63 (b:=g) (o:=0) (j:=u8x (Nat.mod (Nat.div x 268435456) 256) (Nat.div yb 16)) (q:=.u8) rfl (by simp[AOpnd.ev,z0e]) n1) ?_
    refine z02 (.int .u32 (.ofNat tv1)) rfl (j4w (b:=g) (o:=Nat.add 0 (Nat.mul (u8x (Nat.mod (Nat.div x 268435456) 256) (Nat.div yb 16)) 1)) (by simp[AOpnd.ev,z0e]) n2) ?_
    refine z02 (.int .u32 (.ofNat x1)) rfl (z5d (vx:=.int .u32 (.ofNat (Nat.mod (Nat.mul x 16) 4294967296))) (vy:=.int .u32 (.ofNat tv1)) (by simp[AOpnd.ev,z0e]) (by simp[AOpnd.ev,z0e]) (by rw[n3];rfl)) ?_
    refine z02 (.int .u32 (.ofNat x1)) rfl (z2n (by simp[AOpnd.ev,z0e])) ?_
    refine qnil ⟨?_,?_,?_,?_,?_⟩<;>simp[z0e,u7,u10,u11,u12]
   refine wpIn_seq (z1f hT c5 hH hact5 hq5 fun a6 hact6=>?_)
   obtain⟨t6,hq6,w5,w10,w11,w12⟩ :∃ t6,qops H [⟨some (Pos.ofNat 27),.move (.t (Pos.ofNat 5)),none⟩,⟨some (Pos.ofNat 28),.bin .shl (.t (Pos.ofNat 27)) (.c (.int .u64 4)),none⟩,⟨some (Pos.ofNat 29),.move (.t (Pos.ofNat 5)),none⟩,⟨some (Pos.ofNat 30),.bin .shr (.t (Pos.ofNat 29)) (.c (.int .u64 28)),none⟩,
     ⟨some (Pos.ofNat 31),.conv (.toInt .u8) (.t (Pos.ofNat 30)),none⟩,⟨some (Pos.ofNat 32),.move (.t (Pos.ofNat 7)),none⟩,⟨some (Pos.ofNat 33),.bin .and (.t (Pos.ofNat 32)) (.c (.int .u8 15)),none⟩,⟨some (Pos.ofNat 34),.bin .xor (.t (Pos.ofNat 31)) (.t (Pos.ofNat 33)),none⟩,
     ⟨some (Pos.ofNat 35),.idxA 16 1 (.c (.ptr g 0)) (.t (Pos.ofNat 34)),none⟩,⟨some (Pos.ofNat 36),.load1 (.t (Pos.ofNat 35)),none⟩,⟨some (Pos.ofNat 37),.bin .xor (.t (Pos.ofNat 28)) (.t (Pos.ofNat 36)),none⟩,⟨some (Pos.ofNat 5),.move (.t (Pos.ofNat 37)),none⟩] t5=some t6 ∧
     tget t6 (Pos.ofNat 5)=.int .u32 (.ofNat x2)/\tget t6 (Pos.ofNat 10)=s/\tget t6 (Pos.ofNat 11)=.int .i64 (.ofNat bs.length)/\tget t6 (Pos.ofNat 12)=.int .i64 (.ofNat i):=by
    refine z02 (.int .u32 (.ofNat x1)) rfl (z2n v5) ?_
    refine z02 (.int .u32 (.ofNat (Nat.mod (Nat.mul x1 16) 4294967296))) rfl (z5d (vx:=.int .u32 (.ofNat x1)) (by simp[AOpnd.ev,z0e]) rfl rfl) ?_
    refine z02 (.int .u32 (.ofNat x1)) rfl (z2n (by simp[AOpnd.ev,z0e,v5])) ?_
    refine z02 (.int .u32 (.ofNat (Nat.div x1 268435456))) rfl (z5d (vx:=.int .u32 (.ofNat x1)) (by simp[AOpnd.ev,z0e]) rfl rfl) ?_
    refine z02 (.int .u8 (.ofNat (Nat.mod (Nat.div x1 268435456) 256))) rfl (y64 (q:=.u32) (n:=.ofNat (Nat.div x1 268435456)) (by simp[AOpnd.ev,z0e])) ?_
    refine z02 (.int .u8 (.ofNat yb)) rfl (z2n (by simp[AOpnd.ev,z0e,v7])) ?_
    refine z02 (.int .u8 (.ofNat (u8a yb 15))) rfl (z5d (vx:=.int .u8 (.ofNat yb)) (by simp[AOpnd.ev,z0e]) rfl rfl) ?_
    refine z02 (.int .u8 (.ofNat (u8x (Nat.mod (Nat.div x1 268435456) 256) (u8a yb 15)))) rfl (z5d (vx:=.int .u8 (.ofNat (Nat.mod (Nat.div x1 268435456) 256))) (vy:=.int .u8 (.ofNat (u8a yb 15))) (by simp[AOpnd.ev,z0e]) (by simp[AOpnd.ev,z0e]) rfl) ?_
    refine z02 _ rfl (y63 (b:=g) (o:=0) (j:=u8x (Nat.mod (Nat.div x1 268435456) 256) (u8a yb 15)) (q:=.u8) rfl (by simp[AOpnd.ev,z0e]) m1) ?_
    refine z02 (.int .u32 (.ofNat tv2)) rfl (j4w (b:=g) (o:=Nat.add 0 (Nat.mul (u8x (Nat.mod (Nat.div x1 268435456) 256) (u8a yb 15)) 1)) (by simp[AOpnd.ev,z0e]) m2) ?_
    refine z02 (.int .u32 (.ofNat x2)) rfl (z5d (vx:=.int .u32 (.ofNat (Nat.mod (Nat.mul x1 16) 4294967296))) (vy:=.int .u32 (.ofNat tv2)) (by simp[AOpnd.ev,z0e]) (by simp[AOpnd.ev,z0e]) (by rw[m3];rfl)) ?_
    refine z02 (.int .u32 (.ofNat x2)) rfl (z2n (by simp[AOpnd.ev,z0e])) ?_
    refine qnil ⟨?_,?_,?_,?_⟩<;>simp[z0e,v10,v11,v12]
   refine z1f hT c6 hH hact6 hq6 fun a7 hact7=>?_
   simp only[Exit.inBlock,Exit.then]
   have hinc:z1n .i64 (addI (.ofNat i) (.ofNat 1))=.ofNat (i+1):=by
    have:Nat.ble (Nat.add i 1) 9223372036854775807=true:=by
     rw[Nat.ble_eq];show i+1<=_;omega
    simp only[addI,z1n,this]
   obtain⟨t7,hq7,k5,k10,k11,k12⟩ :∃ t7,qops H [⟨some (Pos.ofNat 38),.bin .add (.t (Pos.ofNat 12)) (.c (.int .i64 1)),none⟩,⟨some (Pos.ofNat 12),.move (.t (Pos.ofNat 38)),none⟩] t6=some t7 ∧
     tget t7 (Pos.ofNat 5)=.int .u32 (.ofNat x2)/\tget t7 (Pos.ofNat 10)=s/\tget t7 (Pos.ofNat 11)=.int .i64 (.ofNat bs.length)/\tget t7 (Pos.ofNat 12)=.int .i64 (.ofNat (i+1)):=by
    refine z02 (.int .i64 (.ofNat (i+1))) rfl (z5d (vy:=.int .i64 (.ofNat 1)) w12 rfl ?_) ?_
    .show some (AVal.int .i64 (z1n .i64 (addI (.ofNat i) (.ofNat 1))))=_
     rw[hinc]
    refine z02 (.int .i64 (.ofNat (i+1))) rfl (z2n (by simp[AOpnd.ev,z0e])) ?_
    refine qnil ⟨?_,?_,?_,?_⟩<;>simp[z0e,w5,w10,w11]
   refine z1f hT c7 hH hact7 hq7 fun a8 hact8=>?_
   exact ih t7 k10 k11 a8 hact8 x2 k5 (i+1) (by omega) hc' k12
end
end Go.Am
end
section
namespace Go.Am
open Go Go.RowKit
open Go.Proofs (encStr)
def y8i:AVal->Option (List Nat)
 | .str s=>match Nat.ble s.length 100000 with
  | true=>some s
  | false=>none
 | _=>none
def z7w:List (AVal×AVal)->Option (List (List Nat))
 | []=>some []
 | (k,_)::es=>match y8i k with
  | some s=>match z7w es with
   | some l=>some (s::l)
   | none=>none
  | none=>none
def insK(a:List Nat) :List (List Nat)->List (List Nat)
 | []=>[a]
 | b::l=>match z5a a b with
  | true=>a::b::l
  | false=>b::insK a l
def z4t:List (List Nat)->List (List Nat)
 | []=>[]
 | a::l=>insK a (z4t l)
def q1w(a:List Nat) :List (List Nat)->Bool
 | []=>true
 | b::l=>match z5a b a with
  | true=>false
  | false=>q1w a l
def z3q:List (List Nat)->Bool
 | []=>true
 | a::l=>match q1w a l with
  | true=>z3q l
  | false=>false
def z43:List (List Nat)->List AVal
 | []=>[]
 | s::l=>.str s::z43 l
def z5o(kf:FuncId) :List AVal->AHeap->ARes
 | [.func f [] [.ptr bx o]],h=>match Nat.beq f kf,Nat.beq o 0,PT.get bx h.t with
  | true,true,some (.cells [.map m] false false)=>match PT.get m h.t with
   | some (.map es)=>match z7w es with
    | some ks=>match Nat.ble ks.length 100000,z3q (z4t ks)with
     | true,true=>match ks with
      | []=>some (.snil,h)
      | _=>match h.new (.cells (z43 (z4t ks)) true false)with
       | (b,h')=>some (.sl b 0 ks.length ks.length 1,h')
     | _,_=>none
    | none=>none
   | _=>none
  | _,_,_=>none
 | _,_=>none
def by8(s:List Nat) :List UInt8:=s.map UInt8.ofNat
theorem j1c:∀ {x y:List Nat},(∀ a∈x,a<256)->(∀ b∈y,b<256)->by8 x<by8 y->z5a x y=true
 | [],[],_,_,h=>by simp[by8]at h
 | [],b::y,_,_,h=>rfl
 | a::x,[],_,_,h=>by simp[by8]at h
 | a::x,b::y,hx,hy,h=>by
  have ha:=hx a (by simp)
  have hb:=hy b (by simp)
  simp only[by8,List.map_cons,List.cons_lt_cons_iff]at h
  simp only[z5a]
  rcases h with h | ⟨h1,h2⟩
  .have:a<b:=by
    have:=UInt8.lt_iff_toNat_lt.1 h
    simp only[UInt8.toNat_ofNat']at this
    rw[Nat.mod_eq_of_lt ha,Nat.mod_eq_of_lt hb]at this
    exact this
   rw[show Nat.blt a b=true by rw[Nat.blt_eq];exact this]
  .have he:a=b:=ofNat_inj ha hb h1
   subst he
   have:Nat.blt a a=false:=by
    cases hc:Nat.blt a a with
    | false=>rfl
    | true=>rw[Nat.blt_eq]at hc;omega
   rw[this,Nat.beq_refl]
   exact j1c (fun c hc=>hx c (List.mem_cons_of_mem _ hc)) (fun c hc=>hy c (List.mem_cons_of_mem _ hc)) h2
theorem j7q{a:List Nat} :∀ {l:List (List Nat)},q1w a l=true->∀ b∈l,z5a b a=false
 | [],_,b,hb=>by cases hb
 | c::l,h,b,hb=>by
  simp only[q1w]at h
  split at h
  .cases h
  .rename_i h1
   rcases List.mem_cons.1 hb with rfl | hb
   .exact h1
   .exact j7q h b hb
theorem z90:∀ {l:List (List Nat)},z3q l=true->l.Pairwise (fun a b=>z5a b a=false)
 | [],_=>List.Pairwise.nil
 | a::l,h=>by
  simp only[z3q]at h
  split at h
  .rename_i h1
   exact List.Pairwise.cons (fun b hb=>j7q h1 b hb) (z90 h)
  .cases h
theorem j7x(a:List Nat) :∀ l,(insK a l).Perm (a::l)
 | []=>List.Perm.refl _
 | b::l=>by
  simp only[insK]
  split
  .exact List.Perm.refl _
  .exact((j7x a l).cons b).trans (List.Perm.swap _ _ _)
theorem z5b:∀ l,(z4t l).Perm l
 | []=>List.Perm.refl _
 | a::l=>(j7x a (z4t l)).trans ((z5b l).cons a)
theorem j3v:∀ {es:List (AVal×AVal)} {ks:List (List Nat)},z7w es=some ks->es.map (·.1)=ks.map AVal.str/\∀ s∈ks,s.length<=100000
 | [],ks,h=>by simp[z7w]at h;subst h;exact⟨rfl,by simp⟩
 | (k,v)::es,ks,h=>by
  simp only[z7w]at h
  split at h
  .rename_i s hs
   split at h
   .rename_i l hl
    cases h
    obtain⟨h1,h2⟩:=j3v hl
    unfold y8i at hs
    split at hs
    .rename_i s'
     split at hs
     .rename_i hle
      cases hs
      refine⟨by simp[h1],fun x hx=>?_⟩
      rcases List.mem_cons.1 hx with rfl | hx
      .exact Nat.le_of_ble_eq_true hle
      .exact h2 x hx
     .cases hs
    .cases hs
   .cases h
  .cases h
theorem z86:∀ l,z43 l=l.map AVal.str
 | []=>rfl
 | s::l=>by simp[z43,z86 l]
section
variable{P:Program}{T:Tys}{B:Nat}{φ:Emb}{H:AHeap}{w:World}{nt:Nat}{t:PT AVal}{a:Act}
theorem HRel.grown{w':World}(hH:HRel T B φ H w)(hb:Below w.heap.size w w') :HRel T B φ H w' :=
 ⟨fun p o x h1 h2=>(hH.obj p o x h1 h2).mono (Emb.le_refl _) (hb.block _ (hH.low p x h2).2),hH.inj,fun p x h1=>⟨(hH.low p x h1).1,Nat.lt_of_lt_of_le (hH.low p x h1).2 hb.size⟩,hH.dom,Nat.le_trans hH.base hb.size,hH.glob⟩
theorem Sim.grown{w':World}(hH:HRel T B φ H w)(hb:Below w.heap.size w w') :Sim T B φ H w φ H w':=⟨Ext.refl _ _,hH.grown hb,hb.mono hH.base⟩
theorem Sim.come{w':World}(hH:HRel T B φ H w)(hb:Below w.heap.size w w')(o:AObj){g k:Nat}(hg:w.heap.size<=g)(hlt:g<w'.heap.size)(ho:ORel T (φ.put H.nx ⟨g,0,k⟩) B w' o ⟨g,0,k⟩) :
  Sim T B φ H w (φ.put H.nx ⟨g,0,k⟩) (H.new o).2 w':=by
 have h1:HRel T B (φ.put H.nx ⟨g,0,k⟩) (H.new o).2 w':=by
  refine hH.place H.nx _ hH.fresh (by simp[AHeap.new,Pos.toNat_succ]) (by simp[AHeap.new,Pos.toNat_succ]) (fun q hq=>.inl (by simp[AHeap.new,PT.get_set_other _ _ _ _ (fun e=>hq e.symm)])) (fun q z _ _ hz=>?_) hlt hb.size (fun o' h'=>?_)
  .have:=(hH.low q z hz).2
   exact⟨by show z.c≠g;omega,hb.block _ this⟩
  .rw[AHeap.get_new]at h'
   cases h'
   exact ho
 refine⟨⟨Emb.le_put _ hH.fresh,fun p hp hn=>?_,by simp[AHeap.new,Pos.toNat_succ]⟩,h1,hb.mono hH.base⟩
 have:p≠H.nx:=fun e=>by rw[e]at hp;omega
 exact⟨by rw[Emb.put_other _ _ this];exact hn,by simp[AHeap.new,PT.get_set_other _ _ _ _ (fun e=>this e.symm)]⟩
theorem y5z(s:List Nat) :(strV s).data.toList=by8 s:=rfl
theorem LRel.strs{ks:List (List Nat)} :∀ {l:List Value},LRel φ (ks.map AVal.str) l->l=ks.map (fun s=>Value.string (strV s))/\∀ s∈ks,∀ x∈s,x<256:=by
 induction ks with
 | nil=>intro l h;exact⟨h,by simp⟩
 | cons s ks ih =>
  intro l h
  obtain⟨v,vs,rfl,h1,h2⟩:=h
  obtain⟨e1,e2⟩:=VRel.str_inv h1
  obtain⟨e3,e4⟩:=ih h2
  refine⟨by rw[e1,e3];rfl,fun x hx=>?_⟩
  rcases List.mem_cons.1 hx with rfl | hx
  .exact e2
  .exact e4 x hx
theorem LRel.of_strs{ks:List (List Nat)}(h:∀ s∈ks,∀ x∈s,x<256) :LRel φ (ks.map AVal.str) (ks.map (fun s=>Value.string (strV s))):=by
 induction ks with
 | nil=>rfl
 | cons s ks ih=>exact⟨_,_,rfl,⟨rfl,h s (by simp)⟩,ih fun x hx=>h x (by simp[hx])⟩
theorem j6t{f kf:FuncId}{fn:Func}{c:Code}(hf:P.funcs[f]? = some fn)(hname:(fn.name == "runtime.NumGoroutine")=false)(hbody:fn.body=some c){kt:TypeId}(hkt:P.underlying kt=some .string)
  (hc:∀ (Bm b nn:Nat) (D0:DataW Unit) (R:Value->Option (DataW Unit×List MemPlace)) (w:World),Bm<w.heap.size->w.cell? ⟨Bm,0,none⟩=some (.map (some b))->w.ownsMap P kt R b nn D0->Maps.size D0<=maxLen->Maps.size D0*16<=140737488355328 →
   CallsIn Fence.wide 5 P f #[.func (.func kf) #[] #[.pointer (some ⟨Bm,0,none⟩)]] w fun e w'=>∃ (v:Value) (ss:List (List UInt8)),e=.returned v/\ss.Perm (strKeys D0) ∧
    w'.ownsRow w.heap.size kt 1 v ss.length ((ss.mergeSort (fun x y=>decide (x<=y))).map encStr)/\(v=.slice none 0 0↔ss=[])/\Below w.heap.size w w') :z2k P T B f (z5o kf):=by
 intro φ H w args args' v H' hH hl h
 unfold z5o at h
 split at h
 rotate_left
 .cases h
 rename_i g bx o
 split at h
 rotate_left
 .cases h
 rename_i m hg ho hbx
 split at h
 rotate_left
 .cases h
 rename_i es hm
 split at h
 rotate_left
 .cases h
 rename_i ks hks
 split at h
 rotate_left
 .cases h
 rename_i hlen hris
 have hg:g=kf:=Nat.eq_of_beq_eq_true hg
 have ho:o=0:=Nat.eq_of_beq_eq_true ho
 subst hg ho
 have hlen:ks.length<=100000:=Nat.le_of_ble_eq_true hlen
 obtain⟨u,r,e1,hu,e2⟩:=hl
 have e2:r=[]:=e2
 subst e2
 obtain⟨a',c',e3,ha',hc'⟩:=hu
 have ha':a'=#[]:=by
  have:a'.toList=[]:=ha'
  exact Array.toList_eq_nil_iff.1 this
 obtain⟨u1,r1,e4,⟨x,hx,e5⟩,e6⟩:=hc'
 have e6:r1=[]:=e6
 subst e6
 have hc'':c'=#[u1]:=Array.ext' e4
 obtain⟨arr,ety,lo,hi,k1,k2,k3,k4,k5,k6,k7⟩:=hH.obj bx _ x hbx hx
 have hs0:x.s=0:=(k6 rfl rfl).2
 have hargs:args'=#[.func (.func g) #[] #[.pointer (some ⟨x.c,0,none⟩)]]:=by
  apply Array.ext'
  rw[e1,e3,ha',hc'',e5,hs0]
 obtain⟨vm,k8,xm,hxm,k9⟩:=k4 0 (.map m) rfl
 have hcell:w.cell? ⟨x.c,0,none⟩=some (.map (some xm.c)):=by
  rw[z4c k1]
  simpa[hs0,k9]using k8
 obtain⟨es',clock,q1,⟨⟨l,p1,p2,p3⟩,nd1,nlt,nd2⟩,hBm⟩:=hH.obj m _ xm hm hxm
 obtain⟨hk1,hk2⟩:=j3v hks
 rw[hk1]at p2
 obtain⟨hl1,hl2⟩:=p2.strs
 have hsz:es'.size=ks.length:=by
  have h1:=p1.length_eq
  have h2:=congrArg List.length hl1
  simp at h1 h2
  omega
 have hkey:∀ s∈ks,keyOf P kt (.string (strV s))=some (.string (by8 s)):=by
  intro s hs
  have hle:(strV s).size<=maxLen:=by
   have:=hk2 s hs
   have hsz:(strV s).size=s.length:=by
    show(strV s).data.size=_
    simp[strV]
   rw[hsz];unfold maxLen;omega
  simp only[keyOf,hkt,mapKey]
  simp[hle,y5z]
 let R:Value->Option (DataW Unit×List MemPlace):=fun _=>some (.nil,[])
 have hown:w.ownsMap P kt R xm.c es'.size (.map ((es'.toList.map (WideElems.rg P kt R)).foldr DataW.insert [])):=by
  refine⟨es',clock,q1,⟨by rw[hsz];unfold maxLen;omega,⟨nlt,nd1,nd2⟩,fun e he=>?_⟩,lr,rfl⟩
  have:e.key∈l.map (·.key):=List.mem_map.2 ⟨e,p1.mem_iff.2 he,rfl⟩
  rw[hl1]at this
  obtain⟨s,hs,e'⟩:=List.mem_map.1 this
  exact⟨(.string (by8 s),.nil),by unfold WideElems.rd;rw[<-e',hkey s hs];rfl⟩
 let F:Value->List UInt8:=fun u=>strOf ((((keyOf P kt u).bind fun key=>some (key,(DataW.nil:DataW Unit))).getD (.bool false,.nil)).1)
 have hFk:∀ s∈ks,F (.string (strV s))=by8 s:=by
  intro s hs
  simp only[F,hkey s hs]
  rfl
 have hperm:(strKeys (.map ((es'.toList.map (WideElems.rg P kt R)).foldr DataW.insert []))).Perm (ks.map by8):=by
  have h1:((es'.toList.map (WideElems.rg P kt R)).foldr DataW.insert []).Perm (es'.toList.map (WideElems.rg P kt R)):=WideShapes.sorted_perm _
  have h2:=h1.map (fun p=>strOf p.1)
  have h3:(es'.toList.map (WideElems.rg P kt R)).map (fun p=>strOf p.1)=(es'.toList.map (·.key)).map F:=by
   rw[List.map_map,List.map_map];rfl
  have h4:((es'.toList.map (·.key)).map F).Perm ((l.map (·.key)).map F):=((p1.symm.map _).map _)
  have h5:(l.map (·.key)).map F=ks.map by8:=by
   rw[hl1,List.map_map]
   exact List.map_congr_left fun s hs=>hFk s hs
  rw[h3]at h2
  rw[h5]at h4
  exact h2.trans h4
 have hcount:Maps.size (.map ((es'.toList.map (WideElems.rg P kt R)).foldr DataW.insert []) :DataW Unit)=ks.length:=by
  have:=hperm.length_eq
  simpa[strKeys,Maps.size]using this
 refine .inl ⟨z29 hf hname hbody,?_⟩
 have hcall:=hc x.c xm.c es'.size _ R w (hH.low bx x hx).2 hcell hown (by rw[hcount];unfold maxLen;omega) (by rw[hcount];omega)
 rw[hargs]
 refine z9o (r:=none) (m:=0) (CallsIn.mono hcall ?_)
 rintro e w' ⟨u,ss,rfl,hss,hrow,hnil,hb⟩
 have hsort:ss.mergeSort (fun x y=>decide (x<=y))=(z4t ks).map by8:=by
  have h1:ss.Perm ((z4t ks).map by8):=(hss.trans hperm).trans ((z5b ks).symm.map _)
  rw[mergeSort_of_perm h1]
  refine List.mergeSort_of_pairwise ?_
  have h2:=z90 hris
  have h3:∀ s∈z4t ks,∀ x∈s,x<256:=fun s hs=>hl2 s ((z5b ks).mem_iff.1 hs)
  rw[List.pairwise_map]
  refine List.Pairwise.imp_of_mem (fun {a b} ha hb' hab=>?_) h2
  refine decide_eq_true ?_
  intro hlt
  rw[j1c (h3 b hb') (h3 a ha) hlt]at hab
  cases hab
 have hslen:ss.length=ks.length:=by
  have:=(hss.trans hperm).length_eq
  simpa using this
 rw[hsort]at hrow
 split at h
 .simp only[Option.some.injEq,Prod.mk.injEq]at h
  obtain⟨rfl,rfl⟩:=h
  have:ss=[]:=List.length_eq_zero_iff.1 hslen
  exact⟨u,φ,rfl,hnil.2 this,Sim.grown hH hb⟩
 .rename_i hne
  simp only[Option.some.injEq,Prod.mk.injEq]at h
  obtain⟨rfl,rfl⟩:=h
  rcases hrow.2 with⟨rfl,hz⟩ | ⟨gb,cap,cur,rfl,hbase,hgb,r1,r2,r3,r4⟩
  .exact(hne (List.length_eq_zero_iff.1 (hslen.symm.trans hz))).elim
  .have hgl:gb<w'.heap.size:=(Array.getElem?_eq_some_iff.1 hgb).1
   have h3:∀ s∈z4t ks,∀ x∈s,x<256:=fun s hs=>hl2 s ((z5b ks).mem_iff.1 hs)
   have hxs:((z4t ks).map by8).map encStr=(z4t ks).map (fun s=>Value.string (strV s)):=by
    rw[List.map_map];rfl
   rw[hxs]at r4
   have hll:(z43 (z4t ks)).length=ks.length:=by rw[z86,List.length_map];exact(z5b ks).length_eq
   refine⟨_,_,rfl,?_,Sim.come hH hb (.cells (z43 (z4t ks)) true false) (k:=cur.size) hbase hgl ⟨cur,kt,0,0,hgb,rfl,?_,fun i y hy=>?_,.inl rfl,fun h=>(by cases h),fun _=>Nat.le_trans hH.base hbase⟩⟩
   .refine⟨_,⟨gb,0,none⟩,cap,Emb.put_same _ _ _,by rw[hslen],lr,by omega,.inr (.inl ⟨by decide,rfl,?_,by unfold maxLen at r2;omega⟩)⟩
    show 0+0+cap*1<=cur.size
    omega
   .rw[hll];show 0+ks.length<=cur.size;omega
   .have hrel:=LRel.of_strs (φ:=φ.put H.nx ⟨gb,0,cur.size⟩) h3
    rw[z86]at hy
    obtain⟨vv,z1,z2⟩:=hrel.get hy
    refine⟨vv,?_,z2⟩
    show cur[0+i]? = some vv
    rw[Nat.zero_add,<-Array.getElem?_toList]
    rw[<-r4,List.getElem?_take]at z1
    split at z1
    .exact z1
    .cases z1
end
end Go.Am
end
section
namespace Go.Am
open Go Go.RowKit
def dRec(T:Tys)(nt:Nat)(r0:Code) :List AVal->AHeap->Option AHeap:=fun args h =>
 match z48 args 0 nt .l with
 | some t=>match ev ⟨.l,.l,.l⟩ 3 (comp T nt false r0) none ⟨t,[]⟩ h with
  | some (.normal,⟨_,[]⟩,h')=>some h'
  | _=>none
 | none=>none
section
variable{P:Program}{T:Tys}{B:Nat}{φ:Emb}{H:AHeap}{w:World}{nt:Nat}{t:PT AVal}{a:Act}
theorem EnvOk.empty:EnvOk P T B ⟨.l,.l,.l⟩:=⟨fun f fi _ h=>(by rw[z2o]at h;cases h),fun f s _ h=>(by rw[z2o]at h;cases h),fun f s _ h=>(by rw[z2o]at h;cases h)⟩
theorem j2y(hT:TOk2 T P)(hm:P.follows .mixedOrders=true){f:FuncId}{fn:Func}(hf:P.funcs[f]? = some fn)(hname:(fn.name == "runtime.NumGoroutine")=false){r0 x:Code}{i1 i2 nt:Nat}{oV oA:Oper}{ops2:Array Oper}
  (hb:fn.body=some (.seq r0 (.seq (.region i1 #[oV,oA] false) (.seq (.region i2 ops2 false) (.cond (.tmp 15) x .skip)))))
  (hnt:fn.ntmps=nt) (hres:z2q T fn.results.toList=some []) (h13:16<=nt) (hlt:nt<2^31)
  {ats:Array TypeId} (hV:oV.op=.call { callee:=.builtin .recover,args:=#[],argTypes:=ats }) (hVd:oV.dst=some 13) (hVg:oV.guard=none)
  (hA:oA.op=.assign (.tmp 13)) (hAd:oA.dst=some 3) (hAg:oA.guard=none)
  (c2:z0n T nt ops2.toList ops2.toList=some [⟨some (Pos.ofNat 14),.move (.t (Pos.ofNat 3)),none⟩,⟨some (Pos.ofNat 15),.eq true (.one .iface) (.t (Pos.ofNat 14)) (.c .inil),none⟩]) :y3l P T B f (dRec T nt r0):=by
 intro φ H w args args' H' hH hl h
 unfold dRec at h
 split at h
 rotate_left
 .cases h
 rename_i t0 ht0
 split at h
 rotate_left
 .cases h
 rename_i t1 h1 hev
 cases h
 refine⟨z29 hf hname hb,?_⟩
 refine callsDIn_of_wpSIn hf hb trivial fun c₀ cs hmode=>?_
 rw[hnt]
 have hact:ActRel φ nt ⟨t0,[]⟩ { tmps:=args'++Array.replicate (nt-args'.size) undef,defers:=[] }:=z5k ht0 hl hlt
 generalize ({ tmps:=args'++Array.replicate (nt-args'.size) undef,defers:=[] } :Act)=a at hact ⊢
 have hw0:=q89 (P:=P) (B:=B) hT EnvOk.empty hm 3 r0 nt none none ⟨t0,[]⟩ H φ a w hH hact trivial hev
 refine wpSIn_seq (wpSIn_of_wpIn rfl (wpIn_mono hw0 fun e a1 w1 hp=>?_))
 obtain⟨rfl,φ1,hS,hact1⟩:=hp
 simp only[z6y,Exit.thenS]
 refine wpSIn_seq (wpSIn_region ?_)
 show wpOpsSIn _ _ _ _ _ [0,1] _ _ _
 have hrunV:(execOp a1.eval oV).run P w1=.ok .recover w1:=by
  simp[execOp,hV,resolve,invoke,builtin]
 have hrec:recoverD (c₀::cs)=none:=by
  simp[recoverD,hmode]
 have hsz:a1.tmps.size=nt:=hact1.t.1
 have hgV:Region.wanted oV (yielded #[oV,oA] a1.tmps)=true:=by simp[Region.wanted,hVg]
 have e13:Nat.blt 13 nt=true:=by rw[Nat.blt_eq];omega
 have e3:Nat.blt 3 nt=true:=by rw[Nat.blt_eq];omega
 have hact2:=hact1.put (o:=oV) (d:=some (Pos.ofNat 13)) (by rw[hVd];simp only[j79,e13]) (v:=.inil) (u:=.nilIface) rfl
 have hact3:=hact2.put (o:=oA) (d:=some (Pos.ofNat 3)) (by rw[hAd];simp only[j79,e3]) (v:=.inil) (u:=.nilIface) rfl
 rw[hVd]at hact2
 rw[hVd,hAd]at hact3
 have hgA:Region.wanted oA (yielded #[oV,oA] (a1.put (some 13) .nilIface).tmps)=true:=by simp[Region.wanted,hAg]
 have hrunA:(execOp (a1.put (some 13) .nilIface).eval oA).run P w1=.ok (.value .nilIface) w1:=by
  have:(a1.put (some 13) .nilIface).eval (.tmp 13)=.nilIface:=by
   have:13<nt:=by omega
   simp[Act.eval,Act.put,hsz,this]
  simp[execOp,hA,this]
 have g0:(#[oV,oA] :Array Oper)[0]? = some oV:=rfl
 have g1:(#[oV,oA] :Array Oper)[1]? = some oA:=rfl
 unfold wpOpsSIn
 rw[g0]
 refine⟨fun f _=>trivial,?_⟩
 rw[if_pos hgV,hrunV]
 show(match recoverD (c₀::cs)with | some (v,cs')=>_ | none=>_)
 rw[hrec]
 rw[hVd]
 show wpOpsSIn _ _ _ _ _ [1] _ _ _
 unfold wpOpsSIn
 rw[g1]
 refine⟨fun f _=>trivial,?_⟩
 rw[if_pos hgA,hrunA]
 show wpOpsSIn _ _ _ _ _ [] _ _ _
 rw[hAd]
 unfold wpOpsSIn
 simp only[Exit.thenS]
 obtain⟨t2,hq2,g15⟩ :∃ t2,qops H' [⟨some (Pos.ofNat 14),.move (.t (Pos.ofNat 3)),none⟩,⟨some (Pos.ofNat 15),.eq true (.one .iface) (.t (Pos.ofNat 14)) (.c .inil),none⟩] (tput (tput t1 (some (Pos.ofNat 13)) .inil) (some (Pos.ofNat 3)) .inil)=some t2/\tget t2 (Pos.ofNat 15)=.bool false:=by
  refine z02 .inil rfl (z2n (by simp[AOpnd.ev,z0e])) ?_
  refine z02 (.bool false) rfl (by simp[quiet,AOpnd.ev,z0e,eqV,eqS]) ?_
  exact qnil (by simp[z0e])
 refine wpSIn_seq (wpSIn_of_wpIn rfl (z1f (r:=none) hT c2 hS.rel hact3 hq2 fun a4 hact4=>?_))
 simp only[Exit.thenS]
 have hv15:a4.eval (.tmp 15)=.bool false:=by
  have:=hact4.t.2.2 15 (by decide)
  rw[g15]at this
  exact this
 refine wpSIn_cond hv15 ?_
 rw[if_neg (by simp)]
 refine wpSIn_of_wpIn rfl (wpIn_skip ?_)
 obtain⟨u,hu,_⟩:=z7t (P:=P) hT.toTOk hS.rel hact4.t hres (l:=[]) rfl
 refine⟨by have:=hact4.ds;exact this,.returning,?_,u,hu,⟨u,rfl⟩,rfl,φ1,hS⟩
 rw[<-hmode]
end
def fnd(c:Nat) :List Nat->Nat->Int
 | [],_=>.negSucc 0
 | x::l,n=>match Nat.beq x c with
  | true=>.ofNat n
  | false=>fnd c l (Nat.succ n)
def z68:List AVal->AHeap->ARes
 | [s,.int .u8 (.ofNat c)],h=>match Nat.blt c 256,bstr h s with
  | true,some s=>some (.int .i64 (fnd c s 0),h)
  | _,_=>none
 | _,_=>none
theorem q48(c:Nat)(hc:c<256) :∀ (s:List Nat) (n:Nat),(∀ x∈s,x<256)->fnd c s n=if Go.Lib.indexByte (s.map UInt8.ofNat) (UInt8.ofNat c) == -1 then -1 else Go.Lib.indexByte (s.map UInt8.ofNat) (UInt8.ofNat c)+n
 | [],n,_=>rfl
 | x::s,n,h=>by
  have hx:=h x (by simp)
  have ih:=q48 c hc s (n+1) fun y hy=>h y (List.mem_cons_of_mem _ hy)
  have hge:=Go.Lib.indexByte_ge (s.map UInt8.ofNat) (UInt8.ofNat c)
  simp only[List.map_cons,Go.Lib.indexByte,fnd]
  by_cases e:x=c
  .subst e
   rw[Nat.beq_refl]
   simp
  .have h1:Nat.beq x c=false:=by
    cases hb:Nat.beq x c with
    | false=>rfl
    | true=>exact absurd (Nat.eq_of_beq_eq_true hb) e
   have h2:¬ ((UInt8.ofNat x==UInt8.ofNat c)=true):=fun h'=>e (ofNat_inj hx hc (by simpa using h'))
   rw[h1,if_neg h2]
   simp only[Nat.succ_eq_add_one,ih]
   by_cases e2:Go.Lib.indexByte (s.map UInt8.ofNat) (UInt8.ofNat c) = -1
   .simp[e2]
   .have h3:(Go.Lib.indexByte (s.map UInt8.ofNat) (UInt8.ofNat c) == -1)=false:=by simpa using e2
    rw[h3]
    simp only[Bool.false_eq_true,if_false]
    have h4:(Go.Lib.indexByte (s.map UInt8.ofNat) (UInt8.ofNat c)+1 == -1)=false:=by
     have:Go.Lib.indexByte (s.map UInt8.ofNat) (UInt8.ofNat c)+1 ≠ -1:=by omega
     simpa using this
    rw[h4]
    simp only[Bool.false_eq_true,if_false]
    push_cast
    omega
theorem j7y(b c:Value) :Extern.BytealgIndexByte.indexByte #[b,c]=(do
  let b <-Extern.Bytes.bytesOf b
  let c <-Extern.Bytes.asByte c
  match (List.range b.size).find? fun i=>b[i]! == c with
  | some i=>pure (goInt i)
  | none=>pure (goInt (-1))):=rfl
theorem j1a{P:Program}{T:Tys}{B:Nat}{f:FuncId}{fn:Func}(hf:P.funcs[f]? = some fn)(hname:(fn.name == "runtime.NumGoroutine")=false)(hb:fn.body.isNone=true)(hn:Extern.findNext fn=none)
  (he:Extern.find fn=some Extern.BytealgIndexByte.indexByte) :z2k P T B f z68:=by
 intro φ H w args args' v H' hH hl h
 unfold z68 at h
 split at h
 .rename_i s c
  split at h
  .rename_i s' hc hs
   have hc:c<256:=by simpa[Nat.blt_eq]using hc
   cases h
   obtain⟨u1,r1,e1,h1,u2,r2,e2,h2,e3⟩:=hl
   subst e2
   have e3:r2=[]:=e3
   subst e3
   obtain⟨hbo,hlt⟩:=q79 (P:=P) hH h1 hs
   have e5:u2=.int .u8 (c:Nat):=h2
   have ha:args'=#[u1,.int .u8 (c:Nat)]:=by
    apply Array.ext'
    rw[e1,e5]
   refine .inr ⟨.int .i64 (fnd c s' 0),w,φ,?_,rfl,Sim.refl hH⟩
   rw[run_callFunc_extern hf hname hb hn he,ha]
   have hsame:(Extern.BytealgIndexByte.indexByte #[u1,.int .u8 (c:Nat)]).run P w=(Extern.BytealgIndexByte.indexByte #[.string (strV s'),.int .u8 (c:Nat)]).run P w:=by
    have hbo2:(Extern.Bytes.bytesOf (.string (strV s'))).run P w=.ok (strV s') w:=by simp[Extern.Bytes.bytesOf]
    rw[j7y,j7y]
    simp only[Sem.run_bind,hbo,hbo2,Result.andThen_ok]
   have hrun:(Extern.BytealgIndexByte.indexByte #[u1,.int .u8 (c:Nat)]).run P w=.ok (.int .i64 (fnd c s' 0)) w:=by
    rw[hsame,Go.Lib.run_indexByteString]
    have hcc:((c:Int).toNat.toUInt8)=UInt8.ofNat c:=by simp[Nat.toUInt8]
    rw[hcc]
    have h0:=q48 c hc s' 0 hlt
    have hd:(strV s').data.toList=s'.map UInt8.ofNat:=rfl
    rw[h0,hd]
    by_cases e2:Go.Lib.indexByte (s'.map UInt8.ofNat) (UInt8.ofNat c) = -1
    .simp[e2]
    .have h3:(Go.Lib.indexByte (s'.map UInt8.ofNat) (UInt8.ofNat c) == -1)=false:=by simpa using e2
     rw[h3]
     simp
   rw[hrun]
   rfl
  .cases h
 .cases h
end Go.Am
end
