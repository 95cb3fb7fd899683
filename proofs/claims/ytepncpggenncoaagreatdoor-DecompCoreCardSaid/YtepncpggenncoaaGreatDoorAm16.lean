import Derived.Test.YtepncpggenncoaaGreatDoorAm15
set_option linter.unusedSimpArgs false
set_option linter.unusedVariables false
set_option maxHeartbeats 8000000
namespace Go.Am
open Go
section
variable{E:Env}
abbrev z2i:=AExit->AAct->AHeap->Prop
def W(E:Env)(c:ACode)(ro:Option Pos)(a:AAct)(H:AHeap)(Q:z2i) :Prop:=∃ e a' H',Evs E c ro a H (e,a',H')/\Q e a' H'
def WO(E:Env)(ds:List ADef)(l:List AOper)(t:PT AVal)(H:AHeap)(Q:PT AVal->AHeap->Prop) :Prop:=∃ t' H',Ops E ds l t H (.normal,⟨t',ds⟩,H')/\Q t' H'
def WD(E:Env)(ds:List ADef)(l:List ADraw)(t:PT AVal)(H:AHeap)(seen:List Seen)(Q:PT AVal->AHeap->Prop) :Prop:=∃ t' H',Drs E ds l t H seen (.normal,⟨t',ds⟩,H')/\Q t' H'
theorem W.mono{c:ACode}{ro:Option Pos}{a:AAct}{H:AHeap}{Q Q':z2i}(h:W E c ro a H Q)(k:∀ e a' H',Q e a' H'->Q' e a' H') :W E c ro a H Q':=by
 obtain⟨e,a',H',h,q⟩:=h
 exact⟨e,a',H',h,k _ _ _ q⟩
theorem W.skip{ro:Option Pos}{a:AAct}{H:AHeap}{Q:z2i}(q:Q .normal a H) :W E .skip ro a H Q:=⟨_,_,_,Evs.skip,q⟩
theorem W.ret{ro:Option Pos}{a:AAct}{H:AHeap}{Q:z2i}(q:Q .ret a H) :W E .ret ro a H Q:=⟨_,_,_,Evs.ret,q⟩
theorem W.exit{ro:Option Pos}{a:AAct}{H:AHeap}{Q:z2i}{i:Nat}(q:Q (.exit i) a H) :W E (.exit i) ro a H Q:=⟨_,_,_,Evs.exit,q⟩
theorem W.region{ro:Option Pos}{a:AAct}{H:AHeap}{l:List AOper}{Q:z2i}(h:WO E a.ds l a.t H (fun t' H'=>Q .normal ⟨t',a.ds⟩ H')) :W E (.region l) ro a H Q:=by
 obtain⟨t',H',h,q⟩:=h
 exact⟨_,_,_,Evs.region h,q⟩
theorem W.draw{ro:Option Pos}{a:AAct}{H:AHeap}{l:List ADraw}{Q:z2i}(h:WD E a.ds l a.t H [] (fun t' H'=>Q .normal ⟨t',a.ds⟩ H')) :W E (.draw l) ro a H Q:=by
 obtain⟨t',H',h,q⟩:=h
 exact⟨_,_,_,Evs.draw h,q⟩
def andThen(k:AAct->AHeap->Prop)(Q:z2i) :z2i:=fun e a H=>match e with
 | .normal=>k a H
 | .ret=>Q .ret a H
 | .exit i=>Q (.exit i) a H
 | .goto _=>False
theorem W.seq{x y:ACode}{ro:Option Pos}{a:AAct}{H:AHeap}{Q:z2i}(h:W E x ro a H (andThen (fun a' H'=>W E y ro a' H' Q) Q)) :W E (.seq x y) ro a H Q:=by
 obtain⟨e,a',H',h,q⟩:=h
 cases e with
 | normal=>obtain⟨e2,a2,H2,h2,q2⟩:=q;exact⟨_,_,_,Evs.seq h h2,q2⟩
 | ret=>exact⟨_,_,_,Evs.seq_ret h,q⟩
 | exit i=>exact⟨_,_,_,Evs.seq_exit h,q⟩
 | goto l=>cases q
theorem W.cond_true{x:AOpnd}{c1 c2:ACode}{ro:Option Pos}{a:AAct}{H:AHeap}{Q:z2i}(hx:x.ev a.t=.bool true)(h:W E c1 ro a H Q) :W E (.cond x c1 c2) ro a H Q:=by
 obtain⟨e,a',H',h,q⟩:=h
 exact⟨_,_,_,Evs.cond_true hx h,q⟩
theorem W.cond_false{x:AOpnd}{c1 c2:ACode}{ro:Option Pos}{a:AAct}{H:AHeap}{Q:z2i}(hx:x.ev a.t=.bool false)(h:W E c2 ro a H Q) :W E (.cond x c1 c2) ro a H Q:=by
 obtain⟨e,a',H',h,q⟩:=h
 exact⟨_,_,_,Evs.cond_false hx h,q⟩
theorem Evs.block_other{b:ACode}{i j:Nat}(hij:Nat.beq i j=false){ro:Option Pos}{a a':AAct}{H H':AHeap}(h:Evs E b ro a H (.exit j,a',H')) :Evs E (.block i b) ro a H (.exit j,a',H'):=by
 obtain⟨n0,h⟩:=h
 refine⟨n0+1,fun n hn=>?_⟩
 obtain⟨m,rfl⟩ :∃ m,n=m+1:=⟨n-1,by omega⟩
 simp only[ev]
 rw[h m (by omega)]
 simp only[hij]
def inBlock(id:Nat)(Q:z2i) :z2i:=fun e a H=>match e with
 | .normal=>Q .normal a H
 | .ret=>Q .ret a H
 | .exit i=>match Nat.beq id i with
  | true=>Q .normal a H
  | false=>Q (.exit i) a H
 | .goto _=>False
theorem W.block{b:ACode}{i:Nat}{ro:Option Pos}{a:AAct}{H:AHeap}{Q:z2i}(h:W E b ro a H (inBlock i Q)) :W E (.block i b) ro a H Q:=by
 obtain⟨e,a',H',h,q⟩:=h
 cases e with
 | normal=>exact⟨_,_,_,Evs.block h,q⟩
 | ret=>exact⟨_,_,_,Evs.block_ret h,q⟩
 | exit j =>
  simp only[inBlock]at q
  split at q
  .rename_i he
   have:i=j:=Nat.eq_of_beq_eq_true he
   subst this
   exact⟨_,_,_,Evs.block_exit h,q⟩
  .rename_i he
   exact⟨_,_,_,Evs.block_other he h,q⟩
 | goto l=>cases q
theorem W.loop{b:ACode}{ro:Option Pos}{a:AAct}{H:AHeap}{Q:z2i}(h:W E b ro a H (andThen (fun a' H'=>W E (.loop b) ro a' H' Q) Q)) :W E (.loop b) ro a H Q:=by
 obtain⟨e,a',H',h,q⟩:=h
 cases e with
 | normal=>obtain⟨e2,a2,H2,h2,q2⟩:=q;exact⟨_,_,_,Evs.loop h h2,q2⟩
 | ret=>exact⟨_,_,_,Evs.loop_ret h,q⟩
 | exit i=>exact⟨_,_,_,Evs.loop_exit h,q⟩
 | goto l=>cases q
theorem WO.nil{ds:List ADef}{t:PT AVal}{H:AHeap}{Q:PT AVal->AHeap->Prop}(q:Q t H) :WO E ds [] t H Q:=⟨t,H,Ops.nil,q⟩
theorem WO.go{ds:List ADef}{o:AOper}{l:List AOper}{t:PT AVal}{H H':AHeap}{v:AVal}{Q:PT AVal->AHeap->Prop}(hw:z0y t o.guard=some true)(hd:z5u o.op=true)(hx:∀ rec,z1o E rec t H o.op=some (v,H'))
  (k:WO E ds l (tput t o.dst v) H' Q) :WO E ds (o::l) t H Q:=by
 obtain⟨t2,H2,k,q⟩:=k
 exact⟨t2,H2,Ops.go hw hd hx k,q⟩
theorem WO.not{ds:List ADef}{o:AOper}{l:List AOper}{t:PT AVal}{H:AHeap}{Q:PT AVal->AHeap->Prop}(hw:z0y t o.guard=some false)(k:WO E ds l (tput t o.dst .undef) H Q) :WO E ds (o::l) t H Q:=by
 obtain⟨t2,H2,k,q⟩:=k
 exact⟨t2,H2,Ops.not hw k,q⟩
theorem WO.call{ds:List ADef}{d:Option Pos}{g:Option (Pos×Bool)}{f:FuncId}{args:List AOpnd}{l:List AOper}{t:PT AVal}{H H':AHeap}{v:AVal}{Q:PT AVal->AHeap->Prop}(hw:z0y t g=some true)(hx:z0f E f (evs t args) H v H')
  (k:WO E ds l (tput t d v) H' Q) :WO E ds (⟨d,.callF f args,g⟩::l) t H Q:=by
 obtain⟨t2,H2,k,q⟩:=k
 exact⟨t2,H2,Ops.call hw hx k,q⟩
theorem WO.callV{ds:List ADef}{d:Option Pos}{g:Option (Pos×Bool)}{x:AOpnd}{args:List AOpnd}{l:List AOper}{t:PT AVal}{H H':AHeap}{v:AVal}{Q:PT AVal->AHeap->Prop}(hw:z0y t g=some true)(hx:∃ n0,∀ n,n0<=n->z47 E (ev E n) (x.ev t) (evs t args) H=some (v,H'))
  (k:WO E ds l (tput t d v) H' Q) :WO E ds (⟨d,.callV x args,g⟩::l) t H Q:=by
 obtain⟨t2,H2,k,q⟩:=k
 exact⟨t2,H2,Ops.callV hw hx k,q⟩
theorem WD.nil{ds:List ADef}{t:PT AVal}{H:AHeap}{seen:List Seen}{Q:PT AVal->AHeap->Prop}(q:Q t H) :WD E ds [] t H seen Q:=⟨t,H,Drs.nil,q⟩
theorem WD.quiet{ds:List ADef}{o:AOper}{i b m h:Nat}{l:List ADraw}{t:PT AVal}{H:AHeap}{seen:List Seen}{v:AVal}{Q:PT AVal->AHeap->Prop}(hw:z0y t o.guard=some true)(hx:Go.Am.quiet t H o.op=some v)
  (k:WD E ds l (tput t o.dst v) H (⟨t,o.op,v,b⟩::seen) Q) :WD E ds (⟨o,0,i,b,m,h⟩::l) t H seen Q:=by
 obtain⟨t2,H2,k,q⟩:=k
 exact⟨t2,H2,Drs.quiet hw hx k,q⟩
theorem WD.new{ds:List ADef}{o:AOper}{i b m h:Nat}{l:List ADraw}{t:PT AVal}{H H':AHeap}{seen:List Seen}{v:AVal}{Q:PT AVal->AHeap->Prop}(hw:z0y t o.guard=some true)(hx:z01 t H o.op=some (v,H'))
  (k:WD E ds l (tput t o.dst v) H' seen Q) :WD E ds (⟨o,1,i,b,m,h⟩::l) t H seen Q:=by
 obtain⟨t2,H2,k,q⟩:=k
 exact⟨t2,H2,Drs.new hw hx k,q⟩
theorem WD.loud{ds:List ADef}{o:AOper}{i b m h:Nat}{l:List ADraw}{t:PT AVal}{H H':AHeap}{seen seen':List Seen}{v:AVal}{Q:PT AVal->AHeap->Prop}(hw:z0y t o.guard=some true)(hx:∃ n0,∀ n,n0<=n->z1o E (ev E n) t H o.op=some (v,H'))(hs:z3u h H' seen=some seen')
  (k:WD E ds l (tput t o.dst v) H' seen' Q) :WD E ds (⟨o,2,i,b,m,h⟩::l) t H seen Q:=by
 obtain⟨t2,H2,k,q⟩:=k
 exact⟨t2,H2,Drs.loud hw hx hs k,q⟩
theorem z0f.by{f:FuncId}{fi:AFun}(hn:PT.get (Pos.ofNat f) E.sums=none)(hf:Nat.blt f 2147483648=true)(hg:PT.get (Pos.ofNat f) E.fns=some fi){args:List AVal}{t0:PT AVal}(ha:z48 args 0 fi.ntmps .l=some t0){H:AHeap}{R:AVal->AHeap->Prop}
  (hb:W E fi.body none ⟨t0,[]⟩ H (fun e a' H'=>(e=.normal\/e=.ret)/\a'.ds=[]/\∃ v,(match z0u a'.t H' fi.results with | some [v]=>some v | some l=>some (.tup l) | none=>none)=some v/\R v H')) :∃ v H',z0f E f args H v H'/\R v H':=by
 obtain⟨e,⟨t,ds⟩,H',h,he,hds,v,hr,q⟩:=hb
 have hds:ds=[]:=hds
 subst hds
 exact⟨v,H',z0f.of hn (z7r.of hf hg ha he h hr),q⟩
end
def j5t:AVal->AVal->AVal->Option AVal
 | .bool true,a,_=>some a
 | .bool false,_,b=>some b
 | _,_,_=>none
def z7l(H:AHeap) :AVal->Option AVal
 | .ptr b o=>z04 H b o
 | _=>none
def z6v(H:AHeap)(n:Nat) :AVal->Option AVal
 | .ptr b o=>match z0t H b o n with
  | some l=>some (.agg l)
  | none=>none
 | _=>none
def z2y:AVal->Option AVal
 | .ptr b o=>some (.ptr b o)
 | .func f a b=>some (.func f a b)
 | .yld l=>some (.yld l)
 | _=>none
def fEq(neg:Bool) :Option Bool->Option AVal
 | some b=>some (.bool (match neg with | true=>!b | false=>b))
 | none=>none
def fUn:UnOp->AVal->Option AVal
 | .not,.bool b=>some (.bool !b)
 | .neg,.int k n=>some (.int k (z1n k (subI 0 n)))
 | .xor,.int k n=>z6s .xor k (y0f k) n
 | _,_=>none
def z98(k:IntKind) :AVal->Option AVal
 | .int _ n=>some (.int k (z1n k n))
 | _=>none
def z2p(H:AHeap) :AVal->Option AVal
 | .snil=>some (.str [])
 | .sl b o len _ _=>match z0t H b o len with
  | some l=>match bytesOf l with
   | some s=>match s.all fun n=>Nat.blt n 256 with
    | true=>some (.str s)
    | false=>none
   | none=>none
  | none=>none
 | _=>none
def j74:AVal->Option AVal
 | .str s=>some (.str s)
 | _=>none
def z3a(off:Nat) :AVal->Option AVal
 | .ptr b o=>some (.ptr b (Nat.add o off))
 | _=>none
def z2t(sz:Nat)(x i:AVal) :Option AVal :=
 match x,z3j i with
 | .sl b o len _ _,some n=>match Nat.blt n len with
  | true=>some (.ptr b (Nat.add o (Nat.mul n sz)))
  | false=>none
 | _,_=>none
def j9z(len sz:Nat)(x i:AVal) :Option AVal :=
 match x,z3j i with
 | .ptr b o,some n=>match Nat.blt n len with
  | true=>some (.ptr b (Nat.add o (Nat.mul n sz)))
  | false=>none
 | _,_=>none
def z6x(off:Nat) :AVal->Option AVal
 | .agg l=>lget l off
 | _=>none
def z53(off n:Nat) :AVal->Option AVal
 | .agg l=>match lsub l off n with
  | some l'=>some (.agg l')
  | none=>none
 | _=>none
def z6w(x i:AVal) :Option AVal :=
 match x,z3j i with
 | .str s,some n=>match s.drop n with
  | c::_=>some (.int .u8 (.ofNat c))
  | []=>none
 | _,_=>none
def j5s(n:Nat) :AVal->Option AVal
 | .sl b o len _ _=>match Nat.ble n len with
  | true=>some (.ptr b o)
  | false=>none
 | _=>none
def z52(H:AHeap)(q:EqK)(z x k:AVal)(ok:Bool) :Option AVal :=
 match z3o q k with
 | false=>none
 | true=> match (match x with
  | .mnil=>some none
  | .map b=>match z3n (PT.get b H.t)with
   | some es=>findKey H q k es
   | _=>none
  | _=>none)with
 | some (some v)=>some (match ok with | true=>.tup [v,.bool true] | false=>v)
 | some none=>some (match ok with | true=>.tup [z,.bool false] | false=>z)
 | none=>none
def z4y(x:AVal)(i:Nat) :Option AVal :=
 match x with
 | .tup l=>lget l i
 | _=>none
def fLen(H:AHeap)(k:Nat)(x:AVal) :Option AVal :=
 match k with
 | 0=>match x with
  | .str s=>some (.int .i64 (.ofNat s.length))
  | _=>none
 | 1=>match x with
  | .snil=>some (.int .i64 (.ofNat 0))
  | .sl _ _ n _ _=>some (.int .i64 (.ofNat n))
  | _=>none
 | _=>match x with
  | .mnil=>some (.int .i64 (.ofNat 0))
  | .map b=>match z3n (PT.get b H.t)with
   | some es=>some (.int .i64 (.ofNat es.length))
   | _=>none
  | _=>none
def fMm(isMax:Bool) :List AVal->Option AVal
 | x::l=>mmA isMax x l
 | []=>none
def z99:Option (List AVal)->Option AVal
 | some l=>some (.agg l)
 | none=>none
def oget:Option AVal->AVal
 | some v=>v
 | none=>.any
theorem z5f(v:AVal) :oget (some v)=v:=rfl
section
variable{E:Env}{ds:List ADef}{d:Option Pos}{t:PT AVal}{H:AHeap}{l:List AOper}{Q:PT AVal->AHeap->Prop}
theorem q3d{o:AOper}{v:AVal}{H':AHeap}(hw:z0y t o.guard=some true)(hd:z5u o.op=true)(hx:∀ rec,z1o E rec t H o.op=some (v,H')) :
  WO E ds (o::l) t H Q↔WO E ds l (tput t o.dst v) H' Q:=by
 refine⟨?_,fun k=>WO.go hw hd hx k⟩
 rintro⟨t2,H2,⟨n0,k⟩,q⟩
 exact⟨t2,H2,⟨n0,fun n hn=>by rw[<-z4n hw hd (hx _)];exact k n hn⟩,q⟩
theorem q29:WO E ds [] t H Q↔Q t H:=by
 refine⟨?_,WO.nil⟩
 rintro⟨t2,H2,⟨n0,k⟩,q⟩
 have:=k n0 lr
 simp only[opsA,Option.some.injEq,Prod.mk.injEq,AAct.mk.injEq]at this
 obtain⟨_,⟨rfl,_⟩,rfl⟩:=this
 exact q
theorem j23{op:AOp}{p:Pos}{b:Bool}(hw:z0y t (some (p,b))=some true) :WO E ds (⟨d,op,some (p,b)⟩::l) t H Q↔WO E ds (⟨d,op,none⟩::l) t H Q:=by
 have e:∀ rec,opsA E rec ds (⟨d,op,some (p,b)⟩::l) t H=opsA E rec ds (⟨d,op,none⟩::l) t H:=by
  intro rec
  rw[opsA,opsA,hw]
  rfl
 unfold WO Ops
 simp only[e]
theorem j24{op:AOp}{p:Pos}{b:Bool}(hw:z0y t (some (p,b))=some false) :WO E ds (⟨d,op,some (p,b)⟩::l) t H Q↔WO E ds l (tput t d .undef) H Q:=by
 have e:∀ rec,opsA E rec ds (⟨d,op,some (p,b)⟩::l) t H=opsA E rec ds l (tput t d .undef) H:=by
  intro rec
  rw[opsA,hw]
 unfold WO Ops
 simp only[e]
def q5x:AVal->Bool->Option Bool
 | .bool b,c=>some (b==c)
 | .tup [],_=>some false
 | _,_=>none
theorem j6r(p:Pos)(c:Bool) :z0y t (some (p,c))=q5x (tget t p) c:=by
 have e:z0y t (some (p,c))=(match PT.get p t with | some (.bool b)=>some (b==c) | some (.tup [])=>some false | none=>some false | _=>none):=rfl
 rw[e]
 unfold tget AVal.undef
 cases hp:PT.get p t with
 | none=>rfl
 | some v=>cases v<;>first | rfl | (rename_i l;cases l<;>rfl)
theorem j29(b c:Bool) :q5x (.bool b) c=some (b==c):=rfl
theorem q5w{f:FuncId}{args:List AOpnd}{v:AVal}{H':AHeap}(h:z0f E f (evs t args) H v H') :WO E ds (⟨d,.callF f args,none⟩::l) t H Q↔WO E ds l (tput t d v) H' Q:=by
 refine⟨?_,fun k=>WO.call rfl h k⟩
 obtain⟨n1,h⟩:=h
 rintro⟨t2,H2,⟨n0,k⟩,q⟩
 exact⟨t2,H2,⟨n0+n1,fun n hn=>by rw[<-z4n (E:=E) (o:=⟨d,.callF f args,none⟩) (t:=t) (H:=H) (v:=v) (H':=H') rfl rfl (h n (by omega))];exact k n (by omega)⟩,q⟩
theorem z1h{op:AOp}{v:AVal}(hd:z5u op=true)(he:∀ rec,z1o E rec t H op=(match quiet t H op with | some v=>some (v,H) | none=>none))(hq:quiet t H op=some v) :WO E ds (⟨d,op,none⟩::l) t H Q↔WO E ds l (tput t d v) H Q :=
 q3d (o:=⟨d,op,none⟩) rfl hd (fun rec=>by rw[he,hq])
theorem z3w{op:AOp}{v:AVal}{H':AHeap}(hd:z5u op=true)(he:∀ rec,z1o E rec t H op=z01 t H op)(hq:z01 t H op=some (v,H')) :WO E ds (⟨d,op,none⟩::l) t H Q↔WO E ds l (tput t d v) H' Q :=
 q3d (o:=⟨d,op,none⟩) rfl hd (fun rec=>by rw[he,hq])
variable{ld:List ADraw}{seen:List Seen}
theorem q3f:WD E ds [] t H seen Q↔Q t H:=by
 refine⟨?_,WD.nil⟩
 rintro⟨t2,H2,⟨n0,k⟩,q⟩
 have:=k n0 lr
 simp only[z3t,Option.some.injEq,Prod.mk.injEq,AAct.mk.injEq]at this
 obtain⟨_,⟨rfl,_⟩,rfl⟩:=this
 exact q
theorem z1i{op:AOp}{i₀ b₀ m₀ h₀:Nat}{v:AVal}(hx:quiet t H op=some v) :WD E ds (⟨⟨d,op,none⟩,0,i₀,b₀,m₀,h₀⟩::ld) t H seen Q↔WD E ds ld (tput t d v) H (⟨t,op,v,b₀⟩::seen) Q:=by
 refine⟨?_,WD.quiet (o:=⟨d,op,none⟩) rfl hx⟩
 rintro⟨t2,H2,⟨n0,k⟩,q⟩
 refine⟨t2,H2,⟨n0,fun n hn=>?_⟩,q⟩
 have:=k n hn
 rw[z3t]at this
 simpa only[z0y,hx,z5h]using this
theorem j6m{op:AOp}{i₀ b₀ m₀ h₀:Nat}{v:AVal}{H':AHeap}(hx:z01 t H op=some (v,H')) :WD E ds (⟨⟨d,op,none⟩,1,i₀,b₀,m₀,h₀⟩::ld) t H seen Q↔WD E ds ld (tput t d v) H' seen Q:=by
 refine⟨?_,WD.new (o:=⟨d,op,none⟩) rfl hx⟩
 rintro⟨t2,H2,⟨n0,k⟩,q⟩
 refine⟨t2,H2,⟨n0,fun n hn=>?_⟩,q⟩
 have:=k n hn
 rw[z3t]at this
 simpa only[z0y,hx]using this
theorem j26{op:AOp}{p:Pos}{b:Bool}{c i b' m h:Nat}(hw:z0y t (some (p,b))=some true) :WD E ds (⟨⟨d,op,some (p,b)⟩,c,i,b',m,h⟩::ld) t H seen Q↔WD E ds (⟨⟨d,op,none⟩,c,i,b',m,h⟩::ld) t H seen Q:=by
 have e:∀ rec,z3t E rec ds (⟨⟨d,op,some (p,b)⟩,c,i,b',m,h⟩::ld) t H seen=z3t E rec ds (⟨⟨d,op,none⟩,c,i,b',m,h⟩::ld) t H seen:=by
  intro rec
  rw[z3t,z3t,hw]
  rfl
 unfold WD Drs
 simp only[e]
theorem j27{op:AOp}{p:Pos}{b:Bool}{c i b' m h:Nat}(hw:z0y t (some (p,b))=some false) :WD E ds (⟨⟨d,op,some (p,b)⟩,c,i,b',m,h⟩::ld) t H seen Q↔WD E ds ld (tput t d .undef) H seen Q:=by
 have e:∀ rec,z3t E rec ds (⟨⟨d,op,some (p,b)⟩,c,i,b',m,h⟩::ld) t H seen=z3t E rec ds ld (tput t d .undef) H seen:=by
  intro rec
  rw[z3t,hw]
 unfold WD Drs
 simp only[e]
theorem y1r(x:AOpnd) :quiet t H (.move x)=some (x.ev t):=rfl
theorem y5e(x:AOpnd) :WO E ds (⟨d,.move x,none⟩::l) t H Q↔WO E ds l (tput t d (x.ev t)) H Q:=z1h rfl (fun _=>rfl) (y1r ..)
theorem y5k{i₀ b₀ m₀ h₀:Nat}(x:AOpnd) :WD E ds (⟨⟨d,.move x,none⟩,0,i₀,b₀,m₀,h₀⟩::ld) t H seen Q↔WD E ds ld (tput t d (x.ev t)) H (⟨t,.move x,x.ev t,b₀⟩::seen) Q:=z1i (y1r ..)
theorem y1q(c a b:AOpnd) :quiet t H (.pick c a b)=j5t (c.ev t) (a.ev t) (b.ev t):=by
 first
 | rfl
 | (simp only[quiet];rfl)
 | (simp only[quiet];unfold j5t;(repeat' split)<;>simp_all)
theorem y5d(c a b:AOpnd)(hq:(j5t (c.ev t) (a.ev t) (b.ev t)).isSome=true) :WO E ds (⟨d,.pick c a b,none⟩::l) t H Q↔WO E ds l (tput t d (oget (j5t (c.ev t) (a.ev t) (b.ev t)))) H Q:=by
 obtain⟨v,hv⟩:=Option.isSome_iff_exists.1 hq
 rw[hv]
 exact z1h rfl (fun _=>rfl) ((y1q ..).trans hv)
theorem y5j{i₀ b₀ m₀ h₀:Nat}(c a b₁:AOpnd)(hq:(j5t (c.ev t) (a.ev t) (b₁.ev t)).isSome=true) :WD E ds (⟨⟨d,.pick c a b₁,none⟩,0,i₀,b₀,m₀,h₀⟩::ld) t H seen Q↔WD E ds ld (tput t d (oget (j5t (c.ev t) (a.ev t) (b₁.ev t)))) H (⟨t,.pick c a b₁,oget (j5t (c.ev t) (a.ev t) (b₁.ev t)),b₀⟩::seen) Q:=by
 obtain⟨v,hv⟩:=Option.isSome_iff_exists.1 hq
 rw[hv]
 exact z1i ((y1q ..).trans hv)
theorem j40(x:AOpnd) :quiet t H (.load1 x)=z7l H (x.ev t):=by
 first
 | rfl
 | (simp only[quiet];rfl)
 | (simp only[quiet];unfold z7l;(repeat' split)<;>simp_all)
theorem y0q(x:AOpnd)(hq:(z7l H (x.ev t)).isSome=true) :WO E ds (⟨d,.load1 x,none⟩::l) t H Q↔WO E ds l (tput t d (oget (z7l H (x.ev t)))) H Q:=by
 obtain⟨v,hv⟩:=Option.isSome_iff_exists.1 hq
 rw[hv]
 exact z1h rfl (fun _=>rfl) ((j40 ..).trans hv)
theorem y0x{i₀ b₀ m₀ h₀:Nat}(x:AOpnd)(hq:(z7l H (x.ev t)).isSome=true) :WD E ds (⟨⟨d,.load1 x,none⟩,0,i₀,b₀,m₀,h₀⟩::ld) t H seen Q↔WD E ds ld (tput t d (oget (z7l H (x.ev t)))) H (⟨t,.load1 x,oget (z7l H (x.ev t)),b₀⟩::seen) Q:=by
 obtain⟨v,hv⟩:=Option.isSome_iff_exists.1 hq
 rw[hv]
 exact z1i ((j40 ..).trans hv)
theorem j4z(n:Nat)(x:AOpnd) :quiet t H (.loadN n x)=z6v H n (x.ev t):=by
 first
 | rfl
 | (simp only[quiet];rfl)
 | (simp only[quiet];unfold z6v;(repeat' split)<;>simp_all)
theorem y0p(n:Nat)(x:AOpnd)(hq:(z6v H n (x.ev t)).isSome=true) :WO E ds (⟨d,.loadN n x,none⟩::l) t H Q↔WO E ds l (tput t d (oget (z6v H n (x.ev t)))) H Q:=by
 obtain⟨v,hv⟩:=Option.isSome_iff_exists.1 hq
 rw[hv]
 exact z1h rfl (fun _=>rfl) ((j4z ..).trans hv)
theorem y0w{i₀ b₀ m₀ h₀:Nat}(n:Nat)(x:AOpnd)(hq:(z6v H n (x.ev t)).isSome=true) :WD E ds (⟨⟨d,.loadN n x,none⟩,0,i₀,b₀,m₀,h₀⟩::ld) t H seen Q↔WD E ds ld (tput t d (oget (z6v H n (x.ev t)))) H (⟨t,.loadN n x,oget (z6v H n (x.ev t)),b₀⟩::seen) Q:=by
 obtain⟨v,hv⟩:=Option.isSome_iff_exists.1 hq
 rw[hv]
 exact z1i ((j4z ..).trans hv)
theorem z7a(x:AOpnd) :quiet t H (.nilCheck x)=z2y (x.ev t):=by
 first
 | rfl
 | (simp only[quiet];rfl)
 | (simp only[quiet];unfold z2y;(repeat' split)<;>simp_all)
theorem j01(x:AOpnd)(hq:(z2y (x.ev t)).isSome=true) :WO E ds (⟨d,.nilCheck x,none⟩::l) t H Q↔WO E ds l (tput t d (oget (z2y (x.ev t)))) H Q:=by
 obtain⟨v,hv⟩:=Option.isSome_iff_exists.1 hq
 rw[hv]
 exact z1h rfl (fun _=>rfl) ((z7a ..).trans hv)
theorem j03{i₀ b₀ m₀ h₀:Nat}(x:AOpnd)(hq:(z2y (x.ev t)).isSome=true) :WD E ds (⟨⟨d,.nilCheck x,none⟩,0,i₀,b₀,m₀,h₀⟩::ld) t H seen Q↔WD E ds ld (tput t d (oget (z2y (x.ev t)))) H (⟨t,.nilCheck x,oget (z2y (x.ev t)),b₀⟩::seen) Q:=by
 obtain⟨v,hv⟩:=Option.isSome_iff_exists.1 hq
 rw[hv]
 exact z1i ((z7a ..).trans hv)
theorem q02(op:BinOp)(x y:AOpnd) :quiet t H (.bin op x y)=z0l op (x.ev t) (y.ev t):=by
 first
 | rfl
 | (simp only[quiet];rfl)
 | (simp only[quiet];unfold z0l;(repeat' split)<;>simp_all)
theorem q3e(op:BinOp)(x y:AOpnd)(hq:(z0l op (x.ev t) (y.ev t)).isSome=true) :WO E ds (⟨d,.bin op x y,none⟩::l) t H Q↔WO E ds l (tput t d (oget (z0l op (x.ev t) (y.ev t)))) H Q:=by
 obtain⟨v,hv⟩:=Option.isSome_iff_exists.1 hq
 rw[hv]
 exact z1h rfl (fun _=>rfl) ((q02 ..).trans hv)
theorem q3j{i₀ b₀ m₀ h₀:Nat}(op:BinOp)(x y:AOpnd)(hq:(z0l op (x.ev t) (y.ev t)).isSome=true) :WD E ds (⟨⟨d,.bin op x y,none⟩,0,i₀,b₀,m₀,h₀⟩::ld) t H seen Q↔WD E ds ld (tput t d (oget (z0l op (x.ev t) (y.ev t)))) H (⟨t,.bin op x y,oget (z0l op (x.ev t) (y.ev t)),b₀⟩::seen) Q:=by
 obtain⟨v,hv⟩:=Option.isSome_iff_exists.1 hq
 rw[hv]
 exact z1i ((q02 ..).trans hv)
theorem q_eq(neg:Bool)(k:EqKs)(x y:AOpnd) :quiet t H (.eq neg k x y)=fEq neg (eqV H k (x.ev t) (y.ev t)):=by
 first
 | rfl
 | (simp only[quiet];rfl)
 | (simp only[quiet];unfold fEq;(repeat' split)<;>simp_all)
theorem q8l(neg:Bool)(k:EqKs)(x y:AOpnd)(hq:(fEq neg (eqV H k (x.ev t) (y.ev t))).isSome=true) :WO E ds (⟨d,.eq neg k x y,none⟩::l) t H Q↔WO E ds l (tput t d (oget (fEq neg (eqV H k (x.ev t) (y.ev t))))) H Q:=by
 obtain⟨v,hv⟩:=Option.isSome_iff_exists.1 hq
 rw[hv]
 exact z1h rfl (fun _=>rfl) ((q_eq ..).trans hv)
theorem q8v{i₀ b₀ m₀ h₀:Nat}(neg:Bool)(k:EqKs)(x y:AOpnd)(hq:(fEq neg (eqV H k (x.ev t) (y.ev t))).isSome=true) :WD E ds (⟨⟨d,.eq neg k x y,none⟩,0,i₀,b₀,m₀,h₀⟩::ld) t H seen Q↔WD E ds ld (tput t d (oget (fEq neg (eqV H k (x.ev t) (y.ev t))))) H (⟨t,.eq neg k x y,oget (fEq neg (eqV H k (x.ev t) (y.ev t))),b₀⟩::seen) Q:=by
 obtain⟨v,hv⟩:=Option.isSome_iff_exists.1 hq
 rw[hv]
 exact z1i ((q_eq ..).trans hv)
theorem q_un(op:UnOp)(x:AOpnd) :quiet t H (.un op x)=fUn op (x.ev t):=by
 first
 | rfl
 | (simp only[quiet];rfl)
 | (simp only[quiet];unfold fUn;(repeat' split)<;>simp_all)
theorem q8j(op:UnOp)(x:AOpnd)(hq:(fUn op (x.ev t)).isSome=true) :WO E ds (⟨d,.un op x,none⟩::l) t H Q↔WO E ds l (tput t d (oget (fUn op (x.ev t)))) H Q:=by
 obtain⟨v,hv⟩:=Option.isSome_iff_exists.1 hq
 rw[hv]
 exact z1h rfl (fun _=>rfl) ((q_un ..).trans hv)
theorem q8t{i₀ b₀ m₀ h₀:Nat}(op:UnOp)(x:AOpnd)(hq:(fUn op (x.ev t)).isSome=true) :WD E ds (⟨⟨d,.un op x,none⟩,0,i₀,b₀,m₀,h₀⟩::ld) t H seen Q↔WD E ds ld (tput t d (oget (fUn op (x.ev t)))) H (⟨t,.un op x,oget (fUn op (x.ev t)),b₀⟩::seen) Q:=by
 obtain⟨v,hv⟩:=Option.isSome_iff_exists.1 hq
 rw[hv]
 exact z1i ((q_un ..).trans hv)
theorem j4x(k:IntKind)(x:AOpnd) :quiet t H (.conv (.toInt k) x)=z98 k (x.ev t):=by
 first
 | rfl
 | (simp only[quiet];rfl)
 | (simp only[quiet];unfold z98;(repeat' split)<;>simp_all)
theorem y0m(k:IntKind)(x:AOpnd)(hq:(z98 k (x.ev t)).isSome=true) :WO E ds (⟨d,.conv (.toInt k) x,none⟩::l) t H Q↔WO E ds l (tput t d (oget (z98 k (x.ev t)))) H Q:=by
 obtain⟨v,hv⟩:=Option.isSome_iff_exists.1 hq
 rw[hv]
 exact z1h rfl (fun _=>rfl) ((j4x ..).trans hv)
theorem y0t{i₀ b₀ m₀ h₀:Nat}(k:IntKind)(x:AOpnd)(hq:(z98 k (x.ev t)).isSome=true) :WD E ds (⟨⟨d,.conv (.toInt k) x,none⟩,0,i₀,b₀,m₀,h₀⟩::ld) t H seen Q↔WD E ds ld (tput t d (oget (z98 k (x.ev t)))) H (⟨t,.conv (.toInt k) x,oget (z98 k (x.ev t)),b₀⟩::seen) Q:=by
 obtain⟨v,hv⟩:=Option.isSome_iff_exists.1 hq
 rw[hv]
 exact z1i ((j4x ..).trans hv)
theorem z7b(x:AOpnd) :quiet t H (.conv .bytesStr x)=z2p H (x.ev t):=by
 first
 | rfl
 | (simp only[quiet];rfl)
 | (simp only[quiet];unfold z2p;(repeat' split)<;>simp_all)
theorem j02(x:AOpnd)(hq:(z2p H (x.ev t)).isSome=true) :WO E ds (⟨d,.conv .bytesStr x,none⟩::l) t H Q↔WO E ds l (tput t d (oget (z2p H (x.ev t)))) H Q:=by
 obtain⟨v,hv⟩:=Option.isSome_iff_exists.1 hq
 rw[hv]
 exact z1h rfl (fun _=>rfl) ((z7b ..).trans hv)
theorem j04{i₀ b₀ m₀ h₀:Nat}(x:AOpnd)(hq:(z2p H (x.ev t)).isSome=true) :WD E ds (⟨⟨d,.conv .bytesStr x,none⟩,0,i₀,b₀,m₀,h₀⟩::ld) t H seen Q↔WD E ds ld (tput t d (oget (z2p H (x.ev t)))) H (⟨t,.conv .bytesStr x,oget (z2p H (x.ev t)),b₀⟩::seen) Q:=by
 obtain⟨v,hv⟩:=Option.isSome_iff_exists.1 hq
 rw[hv]
 exact z1i ((z7b ..).trans hv)
theorem y1o(x:AOpnd) :quiet t H (.conv .same x)=j74 (x.ev t):=by
 first
 | rfl
 | (simp only[quiet];rfl)
 | (simp only[quiet];unfold j74;(repeat' split)<;>simp_all)
theorem y5b(x:AOpnd)(hq:(j74 (x.ev t)).isSome=true) :WO E ds (⟨d,.conv .same x,none⟩::l) t H Q↔WO E ds l (tput t d (oget (j74 (x.ev t)))) H Q:=by
 obtain⟨v,hv⟩:=Option.isSome_iff_exists.1 hq
 rw[hv]
 exact z1h rfl (fun _=>rfl) ((y1o ..).trans hv)
theorem y5h{i₀ b₀ m₀ h₀:Nat}(x:AOpnd)(hq:(j74 (x.ev t)).isSome=true) :WD E ds (⟨⟨d,.conv .same x,none⟩,0,i₀,b₀,m₀,h₀⟩::ld) t H seen Q↔WD E ds ld (tput t d (oget (j74 (x.ev t)))) H (⟨t,.conv .same x,oget (j74 (x.ev t)),b₀⟩::seen) Q:=by
 obtain⟨v,hv⟩:=Option.isSome_iff_exists.1 hq
 rw[hv]
 exact z1i ((y1o ..).trans hv)
theorem z5r(off:Nat)(x:AOpnd) :quiet t H (.fieldAddr off x)=z3a off (x.ev t):=by
 first
 | rfl
 | (simp only[quiet];rfl)
 | (simp only[quiet];unfold z3a;(repeat' split)<;>simp_all)
theorem z9v(off:Nat)(x:AOpnd)(hq:(z3a off (x.ev t)).isSome=true) :WO E ds (⟨d,.fieldAddr off x,none⟩::l) t H Q↔WO E ds l (tput t d (oget (z3a off (x.ev t)))) H Q:=by
 obtain⟨v,hv⟩:=Option.isSome_iff_exists.1 hq
 rw[hv]
 exact z1h rfl (fun _=>rfl) ((z5r ..).trans hv)
theorem z9w{i₀ b₀ m₀ h₀:Nat}(off:Nat)(x:AOpnd)(hq:(z3a off (x.ev t)).isSome=true) :WD E ds (⟨⟨d,.fieldAddr off x,none⟩,0,i₀,b₀,m₀,h₀⟩::ld) t H seen Q↔WD E ds ld (tput t d (oget (z3a off (x.ev t)))) H (⟨t,.fieldAddr off x,oget (z3a off (x.ev t)),b₀⟩::seen) Q:=by
 obtain⟨v,hv⟩:=Option.isSome_iff_exists.1 hq
 rw[hv]
 exact z1i ((z5r ..).trans hv)
theorem y1s(sz:Nat)(x i:AOpnd) :quiet t H (.idxS sz x i)=z2t sz (x.ev t) (i.ev t):=by
 first
 | rfl
 | (simp only[quiet];rfl)
 | (simp only[quiet];unfold z2t;(repeat' split)<;>simp_all)
theorem y5f(sz:Nat)(x i:AOpnd)(hq:(z2t sz (x.ev t) (i.ev t)).isSome=true) :WO E ds (⟨d,.idxS sz x i,none⟩::l) t H Q↔WO E ds l (tput t d (oget (z2t sz (x.ev t) (i.ev t)))) H Q:=by
 obtain⟨v,hv⟩:=Option.isSome_iff_exists.1 hq
 rw[hv]
 exact z1h rfl (fun _=>rfl) ((y1s ..).trans hv)
theorem y5l{i₀ b₀ m₀ h₀:Nat}(sz:Nat)(x i:AOpnd)(hq:(z2t sz (x.ev t) (i.ev t)).isSome=true) :WD E ds (⟨⟨d,.idxS sz x i,none⟩,0,i₀,b₀,m₀,h₀⟩::ld) t H seen Q↔WD E ds ld (tput t d (oget (z2t sz (x.ev t) (i.ev t)))) H (⟨t,.idxS sz x i,oget (z2t sz (x.ev t) (i.ev t)),b₀⟩::seen) Q:=by
 obtain⟨v,hv⟩:=Option.isSome_iff_exists.1 hq
 rw[hv]
 exact z1i ((y1s ..).trans hv)
theorem y1t(n sz:Nat)(x i:AOpnd) :quiet t H (.idxA n sz x i)=j9z n sz (x.ev t) (i.ev t):=by
 first
 | rfl
 | (simp only[quiet];rfl)
 | (simp only[quiet];unfold j9z;(repeat' split)<;>simp_all)
theorem y5g(n sz:Nat)(x i:AOpnd)(hq:(j9z n sz (x.ev t) (i.ev t)).isSome=true) :WO E ds (⟨d,.idxA n sz x i,none⟩::l) t H Q↔WO E ds l (tput t d (oget (j9z n sz (x.ev t) (i.ev t)))) H Q:=by
 obtain⟨v,hv⟩:=Option.isSome_iff_exists.1 hq
 rw[hv]
 exact z1h rfl (fun _=>rfl) ((y1t ..).trans hv)
theorem y5m{i₀ b₀ m₀ h₀:Nat}(n sz:Nat)(x i:AOpnd)(hq:(j9z n sz (x.ev t) (i.ev t)).isSome=true) :WD E ds (⟨⟨d,.idxA n sz x i,none⟩,0,i₀,b₀,m₀,h₀⟩::ld) t H seen Q↔WD E ds ld (tput t d (oget (j9z n sz (x.ev t) (i.ev t)))) H (⟨t,.idxA n sz x i,oget (j9z n sz (x.ev t) (i.ev t)),b₀⟩::seen) Q:=by
 obtain⟨v,hv⟩:=Option.isSome_iff_exists.1 hq
 rw[hv]
 exact z1i ((y1t ..).trans hv)
theorem j0r(off:Nat)(x:AOpnd) :quiet t H (.field1 off x)=z6x off (x.ev t):=by
 first
 | rfl
 | (simp only[quiet];rfl)
 | (simp only[quiet];unfold z6x;(repeat' split)<;>simp_all)
theorem j6l(off:Nat)(x:AOpnd)(hq:(z6x off (x.ev t)).isSome=true) :WO E ds (⟨d,.field1 off x,none⟩::l) t H Q↔WO E ds l (tput t d (oget (z6x off (x.ev t)))) H Q:=by
 obtain⟨v,hv⟩:=Option.isSome_iff_exists.1 hq
 rw[hv]
 exact z1h rfl (fun _=>rfl) ((j0r ..).trans hv)
theorem j6q{i₀ b₀ m₀ h₀:Nat}(off:Nat)(x:AOpnd)(hq:(z6x off (x.ev t)).isSome=true) :WD E ds (⟨⟨d,.field1 off x,none⟩,0,i₀,b₀,m₀,h₀⟩::ld) t H seen Q↔WD E ds ld (tput t d (oget (z6x off (x.ev t)))) H (⟨t,.field1 off x,oget (z6x off (x.ev t)),b₀⟩::seen) Q:=by
 obtain⟨v,hv⟩:=Option.isSome_iff_exists.1 hq
 rw[hv]
 exact z1i ((j0r ..).trans hv)
theorem j0q(off n:Nat)(x:AOpnd) :quiet t H (.fieldN off n x)=z53 off n (x.ev t):=by
 first
 | rfl
 | (simp only[quiet];rfl)
 | (simp only[quiet];unfold z53;(repeat' split)<;>simp_all)
theorem j6k(off n:Nat)(x:AOpnd)(hq:(z53 off n (x.ev t)).isSome=true) :WO E ds (⟨d,.fieldN off n x,none⟩::l) t H Q↔WO E ds l (tput t d (oget (z53 off n (x.ev t)))) H Q:=by
 obtain⟨v,hv⟩:=Option.isSome_iff_exists.1 hq
 rw[hv]
 exact z1h rfl (fun _=>rfl) ((j0q ..).trans hv)
theorem j6p{i₀ b₀ m₀ h₀:Nat}(off n:Nat)(x:AOpnd)(hq:(z53 off n (x.ev t)).isSome=true) :WD E ds (⟨⟨d,.fieldN off n x,none⟩,0,i₀,b₀,m₀,h₀⟩::ld) t H seen Q↔WD E ds ld (tput t d (oget (z53 off n (x.ev t)))) H (⟨t,.fieldN off n x,oget (z53 off n (x.ev t)),b₀⟩::seen) Q:=by
 obtain⟨v,hv⟩:=Option.isSome_iff_exists.1 hq
 rw[hv]
 exact z1i ((j0q ..).trans hv)
theorem j0p(x i:AOpnd) :quiet t H (.idxStr x i)=z6w (x.ev t) (i.ev t):=by
 first
 | rfl
 | (simp only[quiet];rfl)
 | (simp only[quiet];unfold z6w;(repeat' split)<;>simp_all)
theorem j6j(x i:AOpnd)(hq:(z6w (x.ev t) (i.ev t)).isSome=true) :WO E ds (⟨d,.idxStr x i,none⟩::l) t H Q↔WO E ds l (tput t d (oget (z6w (x.ev t) (i.ev t)))) H Q:=by
 obtain⟨v,hv⟩:=Option.isSome_iff_exists.1 hq
 rw[hv]
 exact z1h rfl (fun _=>rfl) ((j0p ..).trans hv)
theorem j6o{i₀ b₀ m₀ h₀:Nat}(x i:AOpnd)(hq:(z6w (x.ev t) (i.ev t)).isSome=true) :WD E ds (⟨⟨d,.idxStr x i,none⟩,0,i₀,b₀,m₀,h₀⟩::ld) t H seen Q↔WD E ds ld (tput t d (oget (z6w (x.ev t) (i.ev t)))) H (⟨t,.idxStr x i,oget (z6w (x.ev t) (i.ev t)),b₀⟩::seen) Q:=by
 obtain⟨v,hv⟩:=Option.isSome_iff_exists.1 hq
 rw[hv]
 exact z1i ((j0p ..).trans hv)
theorem j4y(k:ASlk)(x:AOpnd)(lo hi mx:Option AOpnd) :quiet t H (.slice k x lo hi mx)=z0w t k (x.ev t) lo hi mx:=by
 first
 | rfl
 | (simp only[quiet];rfl)
 | (simp only[quiet];unfold z0w;(repeat' split)<;>simp_all)
theorem y0n(k:ASlk)(x:AOpnd)(lo hi mx:Option AOpnd)(hq:(z0w t k (x.ev t) lo hi mx).isSome=true) :WO E ds (⟨d,.slice k x lo hi mx,none⟩::l) t H Q↔WO E ds l (tput t d (oget (z0w t k (x.ev t) lo hi mx))) H Q:=by
 obtain⟨v,hv⟩:=Option.isSome_iff_exists.1 hq
 rw[hv]
 exact z1h rfl (fun _=>rfl) ((j4y ..).trans hv)
theorem y0u{i₀ b₀ m₀ h₀:Nat}(k:ASlk)(x:AOpnd)(lo hi mx:Option AOpnd)(hq:(z0w t k (x.ev t) lo hi mx).isSome=true) :WD E ds (⟨⟨d,.slice k x lo hi mx,none⟩,0,i₀,b₀,m₀,h₀⟩::ld) t H seen Q↔WD E ds ld (tput t d (oget (z0w t k (x.ev t) lo hi mx))) H (⟨t,.slice k x lo hi mx,oget (z0w t k (x.ev t) lo hi mx),b₀⟩::seen) Q:=by
 obtain⟨v,hv⟩:=Option.isSome_iff_exists.1 hq
 rw[hv]
 exact z1i ((j4y ..).trans hv)
theorem y1p(n:Nat)(x:AOpnd) :quiet t H (.s2ap n x)=j5s n (x.ev t):=by
 first
 | rfl
 | (simp only[quiet];rfl)
 | (simp only[quiet];unfold j5s;(repeat' split)<;>simp_all)
theorem y5c(n:Nat)(x:AOpnd)(hq:(j5s n (x.ev t)).isSome=true) :WO E ds (⟨d,.s2ap n x,none⟩::l) t H Q↔WO E ds l (tput t d (oget (j5s n (x.ev t)))) H Q:=by
 obtain⟨v,hv⟩:=Option.isSome_iff_exists.1 hq
 rw[hv]
 exact z1h rfl (fun _=>rfl) ((y1p ..).trans hv)
theorem y5i{i₀ b₀ m₀ h₀:Nat}(n:Nat)(x:AOpnd)(hq:(j5s n (x.ev t)).isSome=true) :WD E ds (⟨⟨d,.s2ap n x,none⟩,0,i₀,b₀,m₀,h₀⟩::ld) t H seen Q↔WD E ds ld (tput t d (oget (j5s n (x.ev t)))) H (⟨t,.s2ap n x,oget (j5s n (x.ev t)),b₀⟩::seen) Q:=by
 obtain⟨v,hv⟩:=Option.isSome_iff_exists.1 hq
 rw[hv]
 exact z1i ((y1p ..).trans hv)
theorem q0z(ty:TypeId)(x:AOpnd) :quiet t H (.mkI ty x)=some (.iface ty (x.ev t)):=rfl
theorem q3a(ty:TypeId)(x:AOpnd) :WO E ds (⟨d,.mkI ty x,none⟩::l) t H Q↔WO E ds l (tput t d (.iface ty (x.ev t))) H Q:=z1h rfl (fun _=>rfl) (q0z ..)
theorem q3g{i₀ b₀ m₀ h₀:Nat}(ty:TypeId)(x:AOpnd) :WD E ds (⟨⟨d,.mkI ty x,none⟩,0,i₀,b₀,m₀,h₀⟩::ld) t H seen Q↔WD E ds ld (tput t d (.iface ty (x.ev t))) H (⟨t,.mkI ty x,.iface ty (x.ev t),b₀⟩::seen) Q:=z1i (q0z ..)
theorem q00(f:FuncId)(a b:List AOpnd) :quiet t H (.mkF f a b)=some (.func f (evs t a) (evs t b)):=rfl
theorem q3b(f:FuncId)(a b:List AOpnd) :WO E ds (⟨d,.mkF f a b,none⟩::l) t H Q↔WO E ds l (tput t d (.func f (evs t a) (evs t b))) H Q:=z1h rfl (fun _=>rfl) (q00 ..)
theorem q3h{i₀ b₀ m₀ h₀:Nat}(f:FuncId)(a b₁:List AOpnd) :WD E ds (⟨⟨d,.mkF f a b₁,none⟩,0,i₀,b₀,m₀,h₀⟩::ld) t H seen Q↔WD E ds ld (tput t d (.func f (evs t a) (evs t b₁))) H (⟨t,.mkF f a b₁,.func f (evs t a) (evs t b₁),b₀⟩::seen) Q:=z1i (q00 ..)
theorem j0o(q:EqK)(z:AVal)(x k:AOpnd)(ok:Bool) :quiet t H (.lookup q z x k ok)=z52 H q z (x.ev t) (k.ev t) ok:=by
 first
 | rfl
 | (simp only[quiet];rfl)
 | (simp only[quiet];unfold z52;(repeat' split)<;>simp_all)
theorem j6i(q:EqK)(z:AVal)(x k:AOpnd)(ok:Bool)(hq:(z52 H q z (x.ev t) (k.ev t) ok).isSome=true) :WO E ds (⟨d,.lookup q z x k ok,none⟩::l) t H Q↔WO E ds l (tput t d (oget (z52 H q z (x.ev t) (k.ev t) ok))) H Q:=by
 obtain⟨v,hv⟩:=Option.isSome_iff_exists.1 hq
 rw[hv]
 exact z1h rfl (fun _=>rfl) ((j0o ..).trans hv)
theorem j6n{i₀ b₀ m₀ h₀:Nat}(q:EqK)(z:AVal)(x k:AOpnd)(ok:Bool)(hq:(z52 H q z (x.ev t) (k.ev t) ok).isSome=true) :WD E ds (⟨⟨d,.lookup q z x k ok,none⟩,0,i₀,b₀,m₀,h₀⟩::ld) t H seen Q↔WD E ds ld (tput t d (oget (z52 H q z (x.ev t) (k.ev t) ok))) H (⟨t,.lookup q z x k ok,oget (z52 H q z (x.ev t) (k.ev t) ok),b₀⟩::seen) Q:=by
 obtain⟨v,hv⟩:=Option.isSome_iff_exists.1 hq
 rw[hv]
 exact z1i ((j0o ..).trans hv)
theorem z8e(x:AOpnd)(i:Nat) :quiet t H (.extract x i)=z4y (x.ev t) i:=by
 first
 | rfl
 | (simp only[quiet];rfl)
 | (simp only[quiet];unfold z4y;(repeat' split)<;>simp_all)
theorem j25(x:AOpnd)(i:Nat)(hq:(z4y (x.ev t) i).isSome=true) :WO E ds (⟨d,.extract x i,none⟩::l) t H Q↔WO E ds l (tput t d (oget (z4y (x.ev t) i))) H Q:=by
 obtain⟨v,hv⟩:=Option.isSome_iff_exists.1 hq
 rw[hv]
 exact z1h rfl (fun _=>rfl) ((z8e ..).trans hv)
theorem j28{i₀ b₀ m₀ h₀:Nat}(x:AOpnd)(i:Nat)(hq:(z4y (x.ev t) i).isSome=true) :WD E ds (⟨⟨d,.extract x i,none⟩,0,i₀,b₀,m₀,h₀⟩::ld) t H seen Q↔WD E ds ld (tput t d (oget (z4y (x.ev t) i))) H (⟨t,.extract x i,oget (z4y (x.ev t) i),b₀⟩::seen) Q:=by
 obtain⟨v,hv⟩:=Option.isSome_iff_exists.1 hq
 rw[hv]
 exact z1i ((z8e ..).trans hv)
theorem q01(k:Nat)(x:AOpnd) :quiet t H (.len k x)=fLen H k (x.ev t):=by
 first
 | rfl
 | (simp only[quiet];rfl)
 | (simp only[quiet];unfold fLen;(repeat' split)<;>simp_all)
theorem q3c(k:Nat)(x:AOpnd)(hq:(fLen H k (x.ev t)).isSome=true) :WO E ds (⟨d,.len k x,none⟩::l) t H Q↔WO E ds l (tput t d (oget (fLen H k (x.ev t)))) H Q:=by
 obtain⟨v,hv⟩:=Option.isSome_iff_exists.1 hq
 rw[hv]
 exact z1h rfl (fun _=>rfl) ((q01 ..).trans hv)
theorem q3i{i₀ b₀ m₀ h₀:Nat}(k:Nat)(x:AOpnd)(hq:(fLen H k (x.ev t)).isSome=true) :WD E ds (⟨⟨d,.len k x,none⟩,0,i₀,b₀,m₀,h₀⟩::ld) t H seen Q↔WD E ds ld (tput t d (oget (fLen H k (x.ev t)))) H (⟨t,.len k x,oget (fLen H k (x.ev t)),b₀⟩::seen) Q:=by
 obtain⟨v,hv⟩:=Option.isSome_iff_exists.1 hq
 rw[hv]
 exact z1i ((q01 ..).trans hv)
theorem q_mm(isMax:Bool)(xs:List AOpnd) :quiet t H (.mm isMax xs)=fMm isMax (evs t xs):=by
 first
 | rfl
 | (simp only[quiet];rfl)
 | (simp only[quiet];unfold fMm;(repeat' split)<;>simp_all)
theorem q8k(isMax:Bool)(xs:List AOpnd)(hq:(fMm isMax (evs t xs)).isSome=true) :WO E ds (⟨d,.mm isMax xs,none⟩::l) t H Q↔WO E ds l (tput t d (oget (fMm isMax (evs t xs)))) H Q:=by
 obtain⟨v,hv⟩:=Option.isSome_iff_exists.1 hq
 rw[hv]
 exact z1h rfl (fun _=>rfl) ((q_mm ..).trans hv)
theorem q8u{i₀ b₀ m₀ h₀:Nat}(isMax:Bool)(xs:List AOpnd)(hq:(fMm isMax (evs t xs)).isSome=true) :WD E ds (⟨⟨d,.mm isMax xs,none⟩,0,i₀,b₀,m₀,h₀⟩::ld) t H seen Q↔WD E ds ld (tput t d (oget (fMm isMax (evs t xs)))) H (⟨t,.mm isMax xs,oget (fMm isMax (evs t xs)),b₀⟩::seen) Q:=by
 obtain⟨v,hv⟩:=Option.isSome_iff_exists.1 hq
 rw[hv]
 exact z1i ((q_mm ..).trans hv)
theorem j41(z:List AVal)(ps:List (Nat×Nat×AOpnd)) :quiet t H (.build z ps)=z99 (z32 z t ps):=by
 first
 | rfl
 | (simp only[quiet];rfl)
 | (simp only[quiet];unfold z99;(repeat' split)<;>simp_all)
theorem y0r(z:List AVal)(ps:List (Nat×Nat×AOpnd))(hq:(z99 (z32 z t ps)).isSome=true) :WO E ds (⟨d,.build z ps,none⟩::l) t H Q↔WO E ds l (tput t d (oget (z99 (z32 z t ps)))) H Q:=by
 obtain⟨v,hv⟩:=Option.isSome_iff_exists.1 hq
 rw[hv]
 exact z1h rfl (fun _=>rfl) ((j41 ..).trans hv)
theorem y0y{i₀ b₀ m₀ h₀:Nat}(z:List AVal)(ps:List (Nat×Nat×AOpnd))(hq:(z99 (z32 z t ps)).isSome=true) :WD E ds (⟨⟨d,.build z ps,none⟩,0,i₀,b₀,m₀,h₀⟩::ld) t H seen Q↔WD E ds ld (tput t d (oget (z99 (z32 z t ps)))) H (⟨t,.build z ps,oget (z99 (z32 z t ps)),b₀⟩::seen) Q:=by
 obtain⟨v,hv⟩:=Option.isSome_iff_exists.1 hq
 rw[hv]
 exact z1i ((j41 ..).trans hv)
theorem y0s(z:List AVal) :WO E ds (⟨d,.alloc z,none⟩::l) t H Q↔WO E ds l (tput t d (AVal.ptr H.nx 0)) ((H.new (.cells z false false)).2) Q:=z3w rfl (fun _=>rfl) rfl
theorem y0z{i₀ b₀ m₀ h₀:Nat}(z:List AVal) :WD E ds (⟨⟨d,.alloc z,none⟩,1,i₀,b₀,m₀,h₀⟩::ld) t H seen Q↔WD E ds ld (tput t d (AVal.ptr H.nx 0)) ((H.new (.cells z false false)).2) seen Q:=j6m rfl
theorem y0o  :WO E ds (⟨d,.mkMap,none⟩::l) t H Q↔WO E ds l (tput t d (AVal.map H.nx)) ((H.new (.map [])).2) Q:=z3w rfl (fun _=>rfl) rfl
theorem y0v{i₀ b₀ m₀ h₀:Nat}  :WD E ds (⟨⟨d,.mkMap,none⟩,1,i₀,b₀,m₀,h₀⟩::ld) t H seen Q↔WD E ds ld (tput t d (AVal.map H.nx)) ((H.new (.map [])).2) seen Q:=j6m rfl
theorem j7k(a:Nat) :Nat.beq a 0=decide (a=0):=by cases a<;>rfl
variable{ro:Option Pos}
abbrev y2c(ds:List ADef)(Inv:Nat->PT AVal->AHeap->Prop)(Q:z2i)(n:Nat) :z2i:=fun e a' H'=>match e with
 | .normal=>a'.ds=ds/\∃ m,m<n/\Inv m a'.t H'
 | .ret=>Q .ret a' H'
 | .exit i=>Q (.exit i) a' H'
 | .goto _=>False
theorem W.loop_inv{b:ACode}{Q:z2i}(Inv:Nat->PT AVal->AHeap->Prop)(step:∀ n t H,Inv n t H->W E b ro ⟨t,ds⟩ H (y2c ds Inv Q n)) :
  ∀ (n:Nat) (t:PT AVal) (H:AHeap),Inv n t H->W E (.loop b) ro ⟨t,ds⟩ H Q:=by
 intro n
 induction n using Nat.strongRecOn with
 | ind n ih =>
  intro t H h
  refine W.loop (W.mono (step n t H h) ?_)
  rintro e ⟨t',ds'⟩ H' q
  cases e with
  | normal =>
   obtain⟨hd,m,hm,q⟩:=q
   have hd:ds'=ds:=hd
   subst hd
   exact ih m hm t' H' q
  | ret=>exact q
  | exit i=>exact q
  | goto l=>cases q
end
theorem z64{n:Nat}(h:n<=9223372036854775807) :z1n .i64 (.ofNat n)=.ofNat n:=by
 have:Nat.ble n 9223372036854775807=true:=Nat.ble_eq_true_of_le h
 simp only[z1n,this]
theorem z0o{i k:Nat}(h:i+k<=9223372036854775807) :z0l .add (.int .i64 (.ofNat i)) (.int .i64 (.ofNat k))=some (.int .i64 (.ofNat (i+k))):=by
 show some (AVal.int .i64 (z1n .i64 (.ofNat (i+k))))=_
 rw[z64 h]
theorem z74{i k:Nat}(h:k<=i)(h':i<=9223372036854775807) :z0l .sub (.int .i64 (.ofNat i)) (.int .i64 (.ofNat k))=some (.int .i64 (.ofNat (i-k))):=by
 show some (AVal.int .i64 (z1n .i64 (match Nat.ble k i with | true=>.ofNat (i-k) | false=>.negSucc (Nat.pred (k-i)))))=_
 have:Nat.ble k i=true:=Nat.ble_eq_true_of_le h
 rw[this]
 simp only
 rw[z64 (by omega)]
theorem j0l{i k:Nat}(h:i*k<=9223372036854775807) :z0l .mul (.int .i64 (.ofNat i)) (.int .i64 (.ofNat k))=some (.int .i64 (.ofNat (i*k))):=by
 show some (AVal.int .i64 (z1n .i64 (.ofNat (i*k))))=_
 rw[z64 h]
theorem q21{i k:Nat}(hk:0<k)(h:i<=9223372036854775807) :z0l .quo (.int .i64 (.ofNat i)) (.int .i64 (.ofNat k))=some (.int .i64 (.ofNat (i/k))):=by
 obtain⟨m,rfl⟩ :∃ m,k=m+1:=⟨k-1,by omega⟩
 show some (AVal.int .i64 (z1n .i64 (.ofNat (i/(m+1)))))=_
 rw[z64 (Nat.le_trans (Nat.div_le_self _ _) h)]
theorem z9s(i j:Nat) :Nat.blt i j=decide (i<j):=by
 by_cases h:i<j
 .simp only[y41 h,h,decide_true]
 .simp only[k3c (show j<=i by omega),h,decide_false]
theorem y12(a b:Nat) :Nat.beq a b=decide (a=b):=by
 by_cases h:a=b
 .subst h;simp[j20]
 .rw[j0k h];simp[h]
theorem j2h(a b:Int) :eqI a b=decide (a=b):=by
 cases a<;>cases b<;>simp only[eqI,y12]<;>simp<;>omega
theorem j7t(v:AVal) :(some v).isSome=true:=rfl
theorem ev_t(t:PT AVal)(p:Pos) :(AOpnd.t p).ev t=tget t p:=rfl
theorem ev_c(t:PT AVal)(v:AVal) :(AOpnd.c v).ev t=v:=rfl
theorem y9f(t:PT AVal) :evs t []=[]:=rfl
theorem y20(t:PT AVal)(x:AOpnd)(l:List AOpnd) :evs t (x::l)=x.ev t::evs t l:=rfl
theorem y1k(a b:AVal) :j5t (.bool true) a b=some a:=rfl
theorem y1l(a b:AVal) :j5t (.bool false) a b=some b:=rfl
theorem y6z(H:AHeap)(b:Pos)(o:Nat) :z7l H (.ptr b o)=z04 H b o:=rfl
theorem y6x(b:Pos)(o:Nat) :z2y (.ptr b o)=some (.ptr b o):=rfl
theorem y6y(f:FuncId)(a b:List AVal) :z2y (.func f a b)=some (.func f a b):=rfl
theorem y6w(l:Pos) :z2y (.yld l)=some (.yld l):=rfl
theorem q9m(b:Bool) :fUn .not (.bool b)=some (.bool !b):=rfl
theorem y6v(k q:IntKind)(n:Int) :z98 k (.int q n)=some (.int k (z1n k n)):=rfl
theorem q37(s:List Nat) :j74 (.str s)=some (.str s):=rfl
theorem y60(off:Nat)(b:Pos)(o:Nat) :z3a off (.ptr b o)=some (.ptr b (o+off)):=rfl
theorem q9n(l:List AVal)(i:Nat) :z4y (.tup l) i=lget l i:=rfl
theorem y1m(off:Nat)(l:List AVal) :z6x off (.agg l)=lget l off:=rfl
theorem r_mm(m:Bool)(x:AVal)(l:List AVal) :fMm m (x::l)=mmA m x l:=rfl
theorem q38(b:Bool) :fEq true (some b)=some (.bool !b):=rfl
theorem q39(b:Bool) :fEq false (some b)=some (.bool b):=rfl
def Pres(ps:List Nat)(t0 t:PT AVal) :Prop:=∀ p∈ps,tget t (Pos.ofNat p)=tget t0 (Pos.ofNat p)
theorem Pres.refl(ps:List Nat)(t:PT AVal) :Pres ps t t:=fun _ _=>rfl
theorem Pres.trans{ps:List Nat}{a b c:PT AVal}(h:Pres ps a b)(k:Pres ps b c) :Pres ps a c:=fun p hp=>(k p hp).trans (h p hp)
theorem Pres.put{ps:List Nat}{t0 t:PT AVal}{q:Nat}{v:AVal}(h:Pres ps t0 t)(hq:q<2147483648)(hps:∀ p∈ps,p<2147483648/\q≠p) :Pres ps t0 (tput t (some (Pos.ofNat q)) v):=by
 intro p hp
 obtain⟨h1,h2⟩:=hps p hp
 rw[z0e _ hq h1,if_neg h2]
 exact h p hp
theorem z7s{v:AVal}(h:z1g v=true) :z1w v=some [v]:=by
 cases v<;>simp_all [z1g,z1w]
theorem z2d(v:AVal) :∀ n,(repl [v] n).length=n
 | 0=>rfl
 | n+1=>by simp[repl,z2d v n]
theorem z0a{H:AHeap}{b p:Pos}{o:AObj}(h:b≠p) :PT.get p (H.upd b o).t=PT.get p H.t:=by
 simp only[AHeap.upd,PT.get_set_other _ _ _ _ h]
section
variable{E:Env}{ds:List ADef}{d:Option Pos}{t:PT AVal}{H:AHeap}{l:List AOper}{Q:PT AVal->AHeap->Prop}
end
end Go.Am
