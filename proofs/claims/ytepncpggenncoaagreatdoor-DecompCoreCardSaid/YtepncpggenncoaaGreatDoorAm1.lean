import GoSem.Dispatch
set_option linter.unusedSimpArgs false
set_option linter.unusedVariables false
set_option maxHeartbeats 8000000
namespace Go.Am
theorem lr{n:Nat}:n≤n:=Nat.le_refl n
theorem bq{α:Type _}[BEq α][ReflBEq α](a:α):(a==a)=true:=beq_self_eq_true a
theorem zA(n:Nat):0+n=n:=Nat.zero_add n
theorem aZ(n:Nat):n+0=n:=rfl
inductive Pos where
 | h
 | o (p:Pos)
 | i (p:Pos)
 deriving Inhabited
def Pos.succ:Pos->Pos
 | .h=>.o .h
 | .o p=>.i p
 | .i p=>.o p.succ
def Pos.toNat:Pos->Nat
 | .h=>1
 | .o p=>2*p.toNat
 | .i p=>2*p.toNat+1
def Pos.ofNatF:Nat->Nat->Pos
 | 0,_=>.h
 | f+1,n=>match Nat.ble n 1 with
  | true=>.h
  | false=>match Nat.beq (Nat.mod n 2) 0 with
   | true=>.o (Pos.ofNatF f (Nat.div n 2))
   | false=>.i (Pos.ofNatF f (Nat.div n 2))
def Pos.ofNat(n:Nat) :Pos:=Pos.ofNatF 32 (Nat.succ n)
def Pos.beq:Pos->Pos->Bool
 | .h,.h=>true
 | .o p,.o q=>Pos.beq p q
 | .i p,.i q=>Pos.beq p q
 | _,_=>false
inductive PT (α:Type) where
 | l
 | n (a:PT α) (v:Option α) (b:PT α)
def PT.get{α:Type} :Pos->PT α->Option α
 | _,.l=>none
 | .h,.n _ v _=>v
 | .o p,.n a _ _=>PT.get p a
 | .i p,.n _ _ b=>PT.get p b
def PT.one{α:Type} :Pos->Option α->PT α
 | .h,x=>.n .l x .l
 | .o p,x=>.n (PT.one p x) none .l
 | .i p,x=>.n .l none (PT.one p x)
def PT.set{α:Type} :Pos->Option α->PT α->PT α
 | p,x,.l=>PT.one p x
 | .h,x,.n a _ b=>.n a x b
 | .o p,x,.n a v b=>.n (PT.set p x a) v b
 | .i p,x,.n a v b=>.n a v (PT.set p x b)
inductive AVal where
 | bool (b:Bool)
 | int (k:IntKind) (n:Int)
 | str (s:List Nat)
 | pnil
 | ptr (b:Pos) (o:Nat)
 | snil
 /-- sz=0: the capacity is known;else the element's cells,and the capacity is a lower bound. -/
 | sl (b:Pos) (o len cap sz:Nat)
 | mnil
 | map (b:Pos)
 | fnil
 | func (f:FuncId) (first caps:List AVal)
 | yld (l:Pos)
 | inil
 | iface (t:TypeId) (v:AVal)
 | agg (l:List AVal)
 | tup (l:List AVal)
 /-- Nothing is known of it. -/
 | any
 deriving Inhabited
def AVal.undef:AVal:=.tup []
inductive AOpnd where
 | t (p:Pos)
 | c (v:AVal)
 deriving Inhabited
inductive AConv where
 | toInt (k:IntKind)
 | strBytes
 | bytesStr
 | same
 | mark
 deriving Inhabited
inductive ASlk where
 | str
 | sl (sz:Nat)
 | arr (n sz:Nat)
 deriving Inhabited
inductive EqK where
 | bool | int | str | ptr | sl | map | func | iface
 /-- Two ints in a row (a map's key alone). -/
 | pair
 deriving Inhabited
inductive EqKs where
 | one (k:EqK)
 | cells (l:List EqK)
 deriving Inhabited
inductive AOp where
 | move (x:AOpnd)
 | pick (c a b:AOpnd)
 | alloc (z:List AVal)
 | box (x:AOpnd)
 | build (z:List AVal) (ps:List (Nat×Nat×AOpnd))
 | buildSlice (z:List AVal) (len:Nat) (ps:List (Nat×Nat×AOpnd))
 | load1 (x:AOpnd)
 | loadN (n:Nat) (x:AOpnd)
 | store (n:Nat) (x y:AOpnd)
 | nilCheck (x:AOpnd)
 | bin (op:BinOp) (x y:AOpnd)
 | eq (neg:Bool) (k:EqKs) (x y:AOpnd)
 | un (op:UnOp) (x:AOpnd)
 | conv (c:AConv) (x:AOpnd)
 | fieldAddr (off:Nat) (x:AOpnd)
 | idxS (sz:Nat) (x i:AOpnd)
 | idxA (n sz:Nat) (x i:AOpnd)
 | field1 (off:Nat) (x:AOpnd)
 | fieldN (off n:Nat) (x:AOpnd)
 | idxStr (x i:AOpnd)
 | idxArr (n:Nat) (x i:AOpnd)
 | slice (k:ASlk) (x:AOpnd) (lo hi mx:Option AOpnd)
 | s2ap (n:Nat) (x:AOpnd)
 | mkI (t:TypeId) (x:AOpnd)
 | mkF (f:FuncId) (first caps:List AOpnd)
 | mkMap
 | mkSlice (z:List AVal) (bytes:Nat) (l c:AOpnd)
 | lookup (q:EqK) (z:AVal) (x k:AOpnd) (ok:Bool)
 | mapUpdate (q:EqK) (m k v:AOpnd)
 | extract (x:AOpnd) (i:Nat)
 | callF (f:FuncId) (args:List AOpnd)
 | callV (f:AOpnd) (args:List AOpnd)
 /-- k: of a string (0),a slice (1),a map (2). -/
 | len (k:Nat) (x:AOpnd)
 | append (sz bytes:Nat) (s x:AOpnd)
 | copy (sz:Nat) (d s:AOpnd)
 | mm (isMax:Bool) (xs:List AOpnd)
 | clear (z:List AVal) (x:AOpnd)
 | defer (f:AOpnd) (args:List AOpnd)
 | bad
 deriving Inhabited
structure AOper where
 dst:Option Pos
 op:AOp
 guard:Option (Pos×Bool)
 deriving Inhabited
structure ADraw where
 o:AOper
 cls:Nat
 idx:Nat
 bit:Nat
 need:Nat
 ahead:Nat
 deriving Inhabited
inductive ACode where
 | skip
 | region (ops:List AOper)
 | draw (ops:List ADraw)
 | seq (a b:ACode)
 | cond (c:AOpnd) (a b:ACode)
 | block (id:Nat) (b:ACode)
 | loop (b:ACode)
 | rangeFunc (f:AOpnd) (ps:List Pos) (assign body:ACode)
 | exit (id:Nat)
 | ret
 | scope (b:ACode)
 | label (l:Nat)
 | goto (l:Nat)
 | bad
 deriving Inhabited
def ACode.find:ACode->Nat->Option ACode
 | .seq a b,l=>match a.find l with
  | some r=>some (.seq r b)
  | none=>b.find l
 | .label l',l=>match Nat.beq l' l with
  | true=>some .skip
  | false=>none
 | _,_=>none
inductive AJump where
 | none
 | ret
 | exit (id:Nat)
 deriving Inhabited
structure ALoop where
 state:LoopState
 pending:AJump
 tmps:PT AVal
 params:List Pos
 assign:ACode
 body:ACode
 defers:Pos
inductive AObj where
 /-- op: behind an append (more cells may lie behind);ro: not to be written. -/
 | cells (l:List AVal) (op ro:Bool)
 | map (es:List (AVal×AVal))
 | loop (l:ALoop)
 | dfr (op:Bool)
 /-- A block of the model's own,that no operation of the machine looks into. -/
 | raw (o:Obj)
 /-- A map that is only read. -/
 | rmap (es:List (AVal×AVal))
structure AHeap where
 t:PT AObj
 nx:Pos
structure AFun where
 ntmps:Nat
 body:ACode
 results:List (Pos×Option (Nat))
abbrev ARes:=Option (AVal×AHeap)
structure Env where
 fns:PT AFun
 sums:PT (List AVal->AHeap->ARes)
 dsums:PT (List AVal->AHeap->Option AHeap)
inductive AExit where
 | normal | ret | exit (id:Nat) | goto (l:Nat)
 deriving Inhabited
inductive ADef where
 | mark (r:Pos)
 | fn (f:FuncId) (args:List AVal)
 deriving Inhabited
structure AAct where
 t:PT AVal
 ds:List ADef
def lget:List AVal->Nat->Option AVal
 | [],_=>none
 | a::_,0=>some a
 | _::l,n+1=>lget l n
def lset:List AVal->Nat->AVal->Option (List AVal)
 | [],_,_=>none
 | _::l,0,v=>some (v::l)
 | a::l,n+1,v=>match lset l n v with
  | some l'=>some (a::l')
  | none=>none
def z9g:Nat->List AVal->Option (List AVal)
 | 0,l=>some l
 | _+1,[]=>none
 | n+1,_::l=>z9g n l
def z6p:Nat->List AVal->Option (List AVal)
 | 0,_=>some []
 | _+1,[]=>none
 | n+1,a::l=>match z6p n l with
  | some l'=>some (a::l')
  | none=>none
def lsub(l:List AVal)(o n:Nat) :Option (List AVal) :=
 match z9g o l with
 | some l'=>z6p n l'
 | none=>none
def z6q:List AVal->List AVal->Option (List AVal)
 | [],l=>some l
 | _::_,[]=>none
 | v::vs,_::l=>match z6q vs l with
  | some l'=>some (v::l')
  | none=>none
def lput:List AVal->Nat->List AVal->Option (List AVal)
 | l,0,vs=>z6q vs l
 | [],_+1,_=>none
 | a::l,n+1,vs=>match lput l n vs with
  | some l'=>some (a::l')
  | none=>none
def AHeap.new(h:AHeap)(x:AObj) :Pos×AHeap:=(h.nx,⟨PT.set h.nx (some x) h.t,h.nx.succ⟩)
def AHeap.upd(h:AHeap)(p:Pos)(x:AObj) :AHeap:=⟨PT.set p (some x) h.t,h.nx⟩
def AHeap.kill(h:AHeap)(p:Pos) :AHeap:=⟨PT.set p none h.t,h.nx⟩
def z3e:AVal->List AVal
 | .agg l=>l
 | v=>[v]
def z1w:AVal->Option (List AVal)
 | .agg l=>some l
 | .any=>none
 | v=>some [v]
def z1g:AVal->Bool
 | .agg _ | .tup _ | .any=>false
 | _=>true
def z1l:List AVal->Bool
 | []=>true
 | v::l=>match z1g v with
  | true=>z1l l
  | false=>false
def z04(h:AHeap)(b:Pos)(o:Nat) :Option AVal :=
 match PT.get b h.t with
 | some (.cells l _ _)=>lget l o
 | _=>none
def z0t(h:AHeap)(b:Pos)(o n:Nat) :Option (List AVal) :=
 match PT.get b h.t with
 | some (.cells l _ _)=>lsub l o n
 | _=>none
def z05(h:AHeap)(b:Pos)(o:Nat)(vs:List AVal) :Option AHeap :=
 match PT.get b h.t with
 | some (.cells l op false)=>match z1l vs with
  | true=>match lput l o vs with
   | some l'=>some (h.upd b (.cells l' op false))
   | none=>none
  | false=>none
 | _=>none
def z1n(k:IntKind)(n:Int) :Int :=
 match n with
 | .ofNat m=>match k with
  | .i64=>match Nat.ble m 9223372036854775807 with
   | true=>.ofNat m
   | false=>IntKind.wrap .i64 (.ofNat m)
  | .u8=>.ofNat (Nat.mod m 256)
  | .u32=>.ofNat (Nat.mod m 4294967296)
  | .u64=>.ofNat (Nat.mod m 18446744073709551616)
  | k=>k.wrap (.ofNat m)
 | n=>k.wrap n
def q8a(k:IntKind) :Nat:=match k with
 | .i8 | .u8=>256
 | .i16 | .u16=>65536
 | .i32 | .u32=>4294967296
 | .i64 | .u64=>18446744073709551616
def y97(k:IntKind)(f:Nat->Nat->Nat)(g:BitVec k.bits->BitVec k.bits->BitVec k.bits)(a b:Int) :Int :=
 match a,b with
 | .ofNat a,.ofNat b=>z1n k (.ofNat (Nat.mod (f a b) (q8a k)))
 | a,b=>z1n k (Int.ofNat (g (BitVec.ofInt k.bits a) (BitVec.ofInt k.bits b)).toNat)
def y0f(k:IntKind) :Int:=match k.signed with
 | true=>.negSucc 0
 | false=>.ofNat (Nat.pred (q8a k))
def mulI:Int->Int->Int
 | .ofNat a,.ofNat b=>.ofNat (Nat.mul a b)
 | a,b=>Int.mul a b
def quoI:Int->Int->Int
 | .ofNat a,.ofNat b=>.ofNat (Nat.div a b)
 | a,b=>Int.tdiv a b
def remI:Int->Int->Int
 | .ofNat a,.ofNat b=>.ofNat (Nat.mod a b)
 | a,b=>Int.tmod a b
def y2l:Int->Bool
 | .ofNat 0=>true
 | _=>false
def ltI:Int->Int->Bool
 | .ofNat a,.ofNat b=>Nat.blt a b
 | .negSucc _,.ofNat _=>true
 | .ofNat _,.negSucc _=>false
 | .negSucc a,.negSucc b=>Nat.blt b a
def eqI:Int->Int->Bool
 | .ofNat a,.ofNat b=>Nat.beq a b
 | .negSucc a,.negSucc b=>Nat.beq a b
 | _,_=>false
def addI:Int->Int->Int
 | .ofNat a,.ofNat b=>.ofNat (Nat.add a b)
 | a,b=>Int.add a b
def subI:Int->Int->Int
 | .ofNat a,.ofNat b=>match Nat.ble b a with
  | true=>.ofNat (Nat.sub a b)
  | false=>.negSucc (Nat.pred (Nat.sub b a))
 | a,b=>Int.sub a b
def y88{R:Type}(n:Int)(k:Int->R) :R :=
 match n with
 | .ofNat 0=>k (.ofNat 0)
 | .ofNat (m+1)=>k (.ofNat (Nat.succ m))
 | .negSucc 0=>k (.negSucc 0)
 | .negSucc (m+1)=>k (.negSucc (Nat.succ m))
def kbeq:IntKind->IntKind->Bool
 | .i64,.i64 | .u8,.u8 | .u32,.u32 | .i32,.i32 | .u64,.u64 | .u16,.u16 | .i8,.i8 | .i16,.i16=>true
 | _,_=>false
def z6s(op:BinOp)(k:IntKind)(a b:Int) :Option AVal :=
 match op with
 | .add=>some (.int k (z1n k (addI a b)))
 | .sub=>some (.int k (z1n k (subI a b)))
 | .mul=>some (.int k (z1n k (mulI a b)))
 | .quo=>match y2l b with
  | true=>none
  | false=>some (.int k (z1n k (quoI a b)))
 | .rem=>match y2l b with
  | true=>none
  | false=>some (.int k (remI a b))
 | .and=>some (.int k (y97 k Nat.land (· &&& ·) a b))
 | .or=>some (.int k (y97 k Nat.lor (· ||| ·) a b))
 | .xor=>some (.int k (y97 k Nat.xor (· ^^^ ·) a b))
 | .andNot=>some (.int k (z1n k (Int.ofNat ((BitVec.ofInt k.bits a &&& ~~~BitVec.ofInt k.bits b).toNat))))
 | .eql=>some (.bool (eqI a b))
 | .neq=>some (.bool (!(eqI a b)))
 | .lss=>some (.bool (ltI a b))
 | .leq=>some (.bool (!(ltI b a)))
 | .gtr=>some (.bool (ltI b a))
 | .geq=>some (.bool (!(ltI a b)))
 | _=>none
def j4n(op:BinOp)(k:IntKind)(x y:Int) :Option AVal :=
 match y with
 | .negSucc _=>none
 | .ofNat m =>
  let n:=Nat.min m k.bits
  match op with
  | .shl=>some (.int k (z1n k (mulI x (.ofNat (Nat.pow 2 n)))))
  | .shr=>match x with
   | .ofNat m=>some (.int k (.ofNat (Nat.div m (Nat.pow 2 n))))
   | x=>some (.int k (x.fdiv (2^n)))
  | _=>none
def z14:List Nat->List Nat->Bool
 | [],[]=>true
 | a::l,b::m=>match Nat.beq a b with
  | true=>z14 l m
  | false=>false
 | _,_=>false
def z5a:List Nat->List Nat->Bool
 | _,[]=>false
 | [],_::_=>true
 | a::x,b::y=>match Nat.blt a b with
  | true=>true
  | false=>match Nat.beq a b with
   | true=>z5a x y
   | false=>false
def j3c(op:BinOp)(a b:List Nat) :Option AVal :=
 match op with
 | .add=>match Nat.ble (Nat.add a.length b.length) 9223372036854775807 with
  | true=>some (.str (a++b))
  | false=>none
 | .eql=>some (.bool (z14 a b))
 | .neq=>some (.bool (!(z14 a b)))
 | .lss=>some (.bool (z5a a b))
 | .leq=>some (.bool (z5a a b || z14 a b))
 | .gtr=>some (.bool !(z5a a b || z14 a b))
 | .geq=>some (.bool !(z5a a b))
 | _=>none
def z0l(op:BinOp)(x y:AVal) :Option AVal :=
 match op,x,y with
 | .shl,.int k a,.int _ b=>j4n .shl k a b
 | .shr,.int k a,.int _ b=>j4n .shr k a b
 | op,.int k a,.int k' b=>match kbeq k k' with
  | true=>z6s op k a b
  | false=>none
 | op,.str a,.str b=>j3c op a b
 | _,_,_=>none
def live(h:AHeap)(b:Pos) :Bool :=
 match PT.get b h.t with
 | some (.cells _ false false)=>true
 | _=>false
def eqS(h:AHeap)(q:EqK)(x y:AVal) :Option Bool :=
 match q with
 | .bool=>match x,y with
  | .bool a,.bool b=>some (a==b)
  | _,_=>none
 | .int=>match x,y with
  | .int k a,.int k' b=>match kbeq k k' with
   | true=>some (eqI a b)
   | false=>none
  | _,_=>none
 | .str=>match x,y with
  | .str a,.str b=>some (z14 a b)
  | _,_=>none
 | .ptr=>match x,y with
  | .pnil,.pnil=>some true
  | .pnil,.ptr _ _=>some false
  | .ptr _ _,.pnil=>some false
  | .ptr b o,.ptr b' o'=>match Pos.beq b b' with
   | true=>some (Nat.beq o o')
   | false=>match live h b,live h b' with
    | true,true=>some false
    | _,_=>none
  | _,_=>none
 | .sl=>match x,y with
  | .snil,.snil=>some true
  | .snil,.sl ..=>some false
  | .sl ..,.snil=>some false
  | _,_=>none
 | .map=>match x,y with
  | .mnil,.mnil=>some true
  | .mnil,.map _=>some false
  | .map _,.mnil=>some false
  | _,_=>none
 | .func=>match x,y with
  | .fnil,.fnil=>some true
  | .fnil,.func ..=>some false
  | .func ..,.fnil=>some false
  | _,_=>none
 | .iface=>match x,y with
  | .inil,.inil=>some true
  | .inil,.iface ..=>some false
  | .iface ..,.inil=>some false
  | _,_=>none
 | .pair=>match x,y with
  | .agg [.int k a,.int q b],.agg [.int k' a',.int q' b']=>match kbeq k k',kbeq q q' with
   | true,true=>some (eqI a a' && eqI b b')
   | _,_=>none
  | _,_=>none
def eqL(h:AHeap) :List EqK->List AVal->List AVal->Option Bool
 | [],[],[]=>some true
 | q::qs,a::l,b::m=>match eqS h q a b with
  | some true=>eqL h qs l m
  | some false=>some false
  | none=>none
 | _,_,_=>none
def eqV(h:AHeap)(k:EqKs)(x y:AVal) :Option Bool :=
 match k with
 | .one q=>eqS h q x y
 | .cells qs=>match x,y with
  | .agg l,.agg m=>eqL h qs l m
  | _,_=>none
mutual
def same:AVal->AVal->Bool
 | .bool a,.bool b=>a==b
 | .int k a,.int k' b=>match kbeq k k' with
  | true=>eqI a b
  | false=>false
 | .str a,.str b=>z14 a b
 | .pnil,.pnil | .snil,.snil | .mnil,.mnil | .fnil,.fnil | .inil,.inil=>true
 | .ptr b o,.ptr b' o'=>Pos.beq b b' && Nat.beq o o'
 | .sl b o l c s,.sl b' o' l' c' s'=>Pos.beq b b' && Nat.beq o o' && Nat.beq l l' && Nat.beq c c' && Nat.beq s s'
 | .map b,.map b'=>Pos.beq b b'
 | .func f a b,.func g c d=>Nat.beq f g && z59 a c && z59 b d
 | .yld l,.yld m=>Pos.beq l m
 | .iface t v,.iface u w=>Nat.beq t u && same v w
 | .agg l,.agg m=>z59 l m
 | .tup l,.tup m=>z59 l m
 | _,_=>false
def z59:List AVal->List AVal->Bool
 | [],[]=>true
 | a::l,b::m=>same a b && z59 l m
 | _,_=>false
end
def tget(t:PT AVal)(p:Pos) :AVal :=
 match PT.get p t with
 | some v=>v
 | none=>.undef
def AOpnd.ev(t:PT AVal) :AOpnd->AVal
 | .t p=>tget t p
 | .c v=>v
def evs(t:PT AVal) :List AOpnd->List AVal
 | []=>[]
 | x::l=>x.ev t::evs t l
def z3j:AVal->Option Nat
 | .int _ (.ofNat n)=>some n
 | _=>none
def z08(t:PT AVal)(x:Option AOpnd)(dflt most:Nat) :Option Nat :=
 match x with
 | none=>some dflt
 | some o=>match z3j (o.ev t)with
  | some n=>match Nat.ble n most with
   | true=>some n
   | false=>none
  | none=>none
def z32(z:List AVal)(t:PT AVal) :List (Nat×Nat×AOpnd)->Option (List AVal)
 | []=>some z
 | (off,size,x)::ps=>match z1w (x.ev t)with
  | some vs=>match Nat.beq vs.length size with
   | true=>match lput z off vs with
    | some z'=>z32 z' t ps
    | none=>none
   | false=>none
  | none=>none
def bytesOf:List AVal->Option (List Nat)
 | []=>some []
 | .int .u8 (.ofNat n)::l=>match bytesOf l with
  | some s=>some (n::s)
  | none=>none
 | _=>none
def z0b:List Nat->List AVal
 | []=>[]
 | n::l=>.int .u8 (.ofNat n)::z0b l
def j3b(s:List Nat)(l h:Nat) :List Nat:=(s.drop l).take (Nat.sub h l)
def z0w(t:PT AVal)(k:ASlk)(x:AVal)(lo hi mx:Option AOpnd) :Option AVal :=
 match k,x with
 | .str,.str s=>match mx with
  | none=>match z08 t hi s.length s.length with
   | some h=>match z08 t lo 0 h with
    | some l=>some (.str (j3b s l h))
    | none=>none
   | none=>none
  | some _=>none
 | .sl _,.snil=>match z08 t mx 0 0 with
  | some _=>match z08 t hi 0 0 with
   | some _=>match z08 t lo 0 0 with
    | some _=>some .snil
    | none=>none
   | none=>none
  | none=>none
 | .sl sz,.sl b o len cap 0=>match z08 t mx cap cap with
  | some m=>match z08 t hi len m with
   | some h=>match z08 t lo 0 h with
    | some l=>match Nat.beq m l with
     | true=>some (.sl b o (Nat.sub h l) (Nat.sub m l) 0)
     | false=>some (.sl b (Nat.add o (Nat.mul l sz)) (Nat.sub h l) (Nat.sub m l) 0)
    | none=>none
   | none=>none
  | none=>none
 | .sl sz,.sl b o len cap (k+1)=>match Nat.beq (Nat.succ k) sz with
  | true=>match z08 t mx cap cap with
   | some m=>match z08 t hi len m with
    | some h=>match z08 t lo 0 h with
     | some l=>match mx with
      | none=>some (.sl b (Nat.add o (Nat.mul l sz)) (Nat.sub h l) (Nat.sub m l) sz)
      | some _=>match Nat.beq m l with
       | true=>some (.sl b o (Nat.sub h l) (Nat.sub m l) 0)
       | false=>some (.sl b (Nat.add o (Nat.mul l sz)) (Nat.sub h l) (Nat.sub m l) 0)
     | none=>none
    | none=>none
   | none=>none
  | false=>none
 | .arr n sz,.ptr b o=>match z08 t mx n n with
  | some m=>match z08 t hi n m with
   | some h=>match z08 t lo 0 h with
    | some l=>match Nat.beq m l with
     | true=>some (.sl b o (Nat.sub h l) (Nat.sub m l) 0)
     | false=>some (.sl b (Nat.add o (Nat.mul l sz)) (Nat.sub h l) (Nat.sub m l) 0)
    | none=>none
   | none=>none
  | none=>none
 | _,_=>none
def mmA(isMax:Bool) :AVal->List AVal->Option AVal
 | x,[]=>some x
 | .int k a,.int k' b::l=>match kbeq k k' with
  | true=>match isMax with
   | true=>mmA isMax (.int k (match ltI a b with | true=>b | false=>a)) l
   | false=>mmA isMax (.int k (match ltI b a with | true=>b | false=>a)) l
  | false=>none
 | _,_=>none
def z3n:Option AObj->Option (List (AVal×AVal))
 | none=>none
 | some o=>match o with
  | .cells _ _ _=>none
  | .map es=>some es
  | .loop _=>none
  | .dfr _=>none
  | .raw _=>none
  | .rmap es=>some es
@[simp] theorem j94 (es:List (AVal×AVal)) :z3n (some (.map es))=some es:=rfl
@[simp] theorem q5b (es:List (AVal×AVal)) :z3n (some (.rmap es))=some es:=rfl
def z3o(q:EqK)(k:AVal) :Bool :=
 match q with
 | .pair=>match k with
  | .agg [.int _ _,.int _ _]=>true
  | _=>false
 | _=>true
def findKey(h:AHeap)(q:EqK)(k:AVal) :List (AVal×AVal)->Option (Option AVal)
 | []=>some none
 | (k',v)::es=>match eqS h q k k' with
  | some true=>match findKey h q k es with
   | some none=>some (some v)
   | _=>none
  | some false=>findKey h q k es
  | none=>none
def z3i(h:AHeap)(q:EqK)(k v:AVal) :List (AVal×AVal)->Option (List (AVal×AVal))
 | []=>some [(k,v)]
 | (k',v')::es=>match eqS h q k k' with
  | some true=>match findKey h q k es with
   | some none=>some ((k,v)::es)
   | _=>none
  | some false=>match z3i h q k v es with
   | some es'=>some ((k',v')::es')
   | none=>none
  | none=>none
def z54(h:AHeap)(q:EqK)(k:AVal) :List (AVal×AVal)->Option (List (AVal×AVal))
 | []=>some []
 | (k',v')::es=>match eqS h q k k' with
  | some true=>match findKey h q k es with
   | some none=>some es
   | _=>none
  | some false=>match z54 h q k es with
   | some es'=>some ((k',v')::es')
   | none=>none
  | none=>none
def j7u:AOpnd->Bool
 | .c .any=>true
 | _=>false
def j06(h:AHeap)(q:EqK)(k:AVal)(v:AOpnd)(t:PT AVal)(es:List (AVal×AVal)) :Option (List (AVal×AVal)) :=
 match j7u v with
 | true=>z54 h q k es
 | false=>z3i h q k (v.ev t) es
def quiet(t:PT AVal)(h:AHeap) :AOp->Option AVal
 | .move x=>some (x.ev t)
 | .pick c a b=>match c.ev t with
  | .bool true=>some (a.ev t)
  | .bool false=>some (b.ev t)
  | _=>none
 | .build z ps=>match z32 z t ps with
  | some l=>some (.agg l)
  | none=>none
 | .load1 x=>match x.ev t with
  | .ptr b o=>z04 h b o
  | _=>none
 | .loadN n x=>match x.ev t with
  | .ptr b o=>match z0t h b o n with
   | some l=>some (.agg l)
   | none=>none
  | _=>none
 | .nilCheck x=>match x.ev t with
  | .ptr b o=>some (.ptr b o)
  | .func f a b=>some (.func f a b)
  | .yld l=>some (.yld l)
  | _=>none
 | .bin op x y=>z0l op (x.ev t) (y.ev t)
 | .eq neg k x y=>match eqV h k (x.ev t) (y.ev t)with
  | some b=>some (.bool (match neg with | true=>!b | false=>b))
  | none=>none
 | .un op x=>match op,x.ev t with
  | .not,.bool b=>some (.bool !b)
  | .neg,.int k n=>some (.int k (z1n k (subI 0 n)))
  | .xor,.int k n=>z6s .xor k (y0f k) n
  | _,_=>none
 | .conv c x=>match c with
  | .toInt k=>match x.ev t with
   | .int _ n=>some (.int k (z1n k n))
   | _=>none
  | .bytesStr=>match x.ev t with
   | .snil=>some (.str [])
   | .sl b o len _ _=>match z0t h b o len with
    | some l=>match bytesOf l with
     | some s=>match s.all fun n=>Nat.blt n 256 with
      | true=>some (.str s)
      | false=>none
     | none=>none
    | none=>none
   | _=>none
  | .same=>match x.ev t with
   | .str s=>some (.str s)
   | _=>none
  | _=>none
 | .fieldAddr off x=>match x.ev t with
  | .ptr b o=>some (.ptr b (Nat.add o off))
  | _=>none
 | .idxS sz x i=>match x.ev t,z3j (i.ev t)with
  | .sl b o len _ _,some n=>match Nat.blt n len with
   | true=>some (.ptr b (Nat.add o (Nat.mul n sz)))
   | false=>none
  | _,_=>none
 | .idxA len sz x i=>match x.ev t,z3j (i.ev t)with
  | .ptr b o,some n=>match Nat.blt n len with
   | true=>some (.ptr b (Nat.add o (Nat.mul n sz)))
   | false=>none
  | _,_=>none
 | .field1 off x=>match x.ev t with
  | .agg l=>lget l off
  | _=>none
 | .fieldN off n x=>match x.ev t with
  | .agg l=>match lsub l off n with
   | some l'=>some (.agg l')
   | none=>none
  | _=>none
 | .idxStr x i=>match x.ev t,z3j (i.ev t)with
  | .str s,some n=>match s.drop n with
   | c::_=>some (.int .u8 (.ofNat c))
   | []=>none
  | _,_=>none
 | .idxArr len x i=>match x.ev t,z3j (i.ev t)with
  | .agg l,some n=>match Nat.blt n len with
   | true=>lget l n
   | false=>none
  | _,_=>none
 | .slice k x lo hi mx=>z0w t k (x.ev t) lo hi mx
 | .s2ap n x=>match x.ev t with
  | .sl b o len _ _=>match Nat.ble n len with
   | true=>some (.ptr b o)
   | false=>none
  | _=>none
 | .mkI ty x=>some (.iface ty (x.ev t))
 | .mkF f first caps=>some (.func f (evs t first) (evs t caps))
 | .lookup q z x k ok =>
  match z3o q (k.ev t)with
  | false=>none
  | true=>match (match x.ev t with
   | .mnil=>some none
   | .map b=>match z3n (PT.get b h.t)with
    | some es=>findKey h q (k.ev t) es
    | _=>none
   | _=>none)with
  | some (some v)=>some (match ok with | true=>.tup [v,.bool true] | false=>v)
  | some none=>some (match ok with | true=>.tup [z,.bool false] | false=>z)
  | none=>none
 | .extract x i=>match x.ev t with
  | .tup l=>lget l i
  | _=>none
 | .len k x=>match k with
  | 0=>match x.ev t with
   | .str s=>some (.int .i64 (.ofNat s.length))
   | _=>none
  | 1=>match x.ev t with
   | .snil=>some (.int .i64 (.ofNat 0))
   | .sl _ _ n _ _=>some (.int .i64 (.ofNat n))
   | _=>none
  | _=>match x.ev t with
   | .mnil=>some (.int .i64 (.ofNat 0))
   | .map b=>match z3n (PT.get b h.t)with
    | some es=>some (.int .i64 (.ofNat es.length))
    | _=>none
   | _=>none
 | .mm isMax xs=>match evs t xs with
  | x::l=>mmA isMax x l
  | []=>none
 | _=>none
def repl(z:List AVal) :Nat->List AVal
 | 0=>[]
 | n+1=>z++repl z n
def z1e(h:AHeap)(sz:Nat)(x:AVal) :Option (Nat×List AVal) :=
 match x with
 | .snil=>some (0,[])
 | .str s=>match Nat.beq sz 1 with
  | true=>some (s.length,z0b s)
  | false=>none
 | .sl b o len _ _=>match z0t h b o (Nat.mul len sz)with
  | some l=>some (len,l)
  | none=>none
 | _=>none
def z31(h:AHeap)(sz n:Nat)(x:AVal) :Option (List AVal) :=
 match x with
 | .snil=>some []
 | .str s=>some (z0b (s.take n))
 | .sl b o _ _ _=>z0t h b o (Nat.mul n sz)
 | _=>none
def lenA:AVal->Option Nat
 | .snil=>some 0
 | .str s=>some s.length
 | .sl _ _ n _ _=>some n
 | _=>none
def z09(h:AHeap)(sz bytes:Nat)(s x:AVal) :ARes :=
 match z1e h sz x with
 | some (n,new) =>
  match s with
  | .snil=>match n with
   | 0=>some (.snil,h)
   | n+1=>match Nat.ble (Nat.mul (Nat.succ n) bytes) 281474976710656 with
    | true=>match h.new (.cells new true false)with
     | (b,h')=>some (.sl b 0 (Nat.succ n) (Nat.succ n) sz,h')
    | false=>none
  | .sl b o len cap k =>
   match Nat.ble (Nat.add len n) cap with
   | true=>match z05 h b (Nat.add o (Nat.mul len sz)) new with
    | some h'=>some (.sl b o (Nat.add len n) cap k,h')
    | none=>none
   | false=>match z0t h b o (Nat.mul len sz),Nat.ble (Nat.mul (Nat.mul (Nat.add len n) 2) bytes) 281474976710656 with
    | some old,true=>match k with
     | 0=>match h.new (.cells (old++new) true false)with
      | (b',h')=>some (.sl b' 0 (Nat.add len n) (Nat.add len n) sz,h')
     | k'+1=>match PT.get b h.t,Nat.beq (Nat.succ k') sz,z1l new with
      | some (.cells _ _ false),true,true=>match (h.kill b).new (.cells (old++new) true false)with
       | (b',h')=>some (.sl b' 0 (Nat.add len n) (Nat.add len n) sz,h')
      | _,_,_=>none
    | _,_=>none
  | _=>none
 | none=>none
def z01(t:PT AVal)(h:AHeap) :AOp->ARes
 | .alloc z=>match h.new (.cells z false false)with
  | (b,h')=>some (.ptr b 0,h')
 | .box x=>match z1w (x.ev t)with
  | some vs=>match h.new (.cells vs false false)with
   | (b,h')=>some (.ptr b 0,h')
  | none=>none
 | .buildSlice z len ps=>match z32 z t ps with
  | some l=>match h.new (.cells l false false)with
   | (b,h')=>some (.sl b 0 len len 0,h')
  | none=>none
 | .store n x y=>match x.ev t with
  | .ptr b o=>match z1w (y.ev t)with
   | some vs=>match Nat.beq vs.length n with
    | true=>match z05 h b o vs with
     | some h'=>some (.undef,h')
     | none=>none
    | false=>none
   | none=>none
  | _=>none
 | .conv .strBytes x=>match x.ev t with
  | .str s=>match Nat.ble s.length 281474976710656 with
   | true=>match h.new (.cells (z0b s) true false)with
    | (b,h')=>some (.sl b 0 s.length s.length 1,h')
   | false=>none
  | _=>none
 | .conv .mark x=>match x.ev t with
  | .snil=>none
  | .sl b o len cap k=>match PT.get b h.t,Nat.blt 0 cap with
   | some (.cells l _ false),true=>some (.sl b o len cap k,h.upd b (.cells l true false))
   | _,_=>none
  | _=>none
 | .clear z x=>match x.ev t with
  | .snil=>some (.undef,h)
  | .sl b o len _ _=>match z05 h b o (repl z len)with
   | some h'=>some (.undef,h')
   | none=>none
  | _=>none
 | .mkMap=>match h.new (.map [])with
  | (b,h')=>some (.map b,h')
 | .mkSlice z bytes l c=>match z3j (l.ev t),z3j (c.ev t)with
  | some l,some c=>match Nat.ble l c,Nat.ble (Nat.mul c bytes) 140737488355328,Nat.ble c 140737488355328 with
   | true,true,true=>match h.new (.cells (repl z c) false false)with
    | (b,h')=>some (.sl b 0 l c 0,h')
   | _,_,_=>none
  | _,_=>none
 | .mapUpdate q m k v=>match m.ev t with
  | .map b=>match PT.get b h.t with
   | some (.map es)=>match z3o q (k.ev t)with
    | true=>match j06 h q (k.ev t) v t es with
     | some es'=>some (.undef,h.upd b (.map es'))
     | none=>none
    | false=>none
   | _=>none
  | _=>none
 | .append sz bytes s x=>z09 h sz bytes (s.ev t) (x.ev t)
 | .copy sz d s=>match d.ev t,lenA (s.ev t)with
  | .snil,some _=>some (.int .i64 (.ofNat 0),h)
  | .sl b o len _ _,some n =>
   match z31 h sz (Nat.min n len) (s.ev t)with
   | some l=>match z05 h b o l with
    | some h'=>some (.int .i64 (.ofNat (Nat.min n len)),h')
    | none=>none
   | none=>none
  | _,_=>none
 | op=>match quiet t h op with
  | some v=>some (v,h)
  | none=>none
def tput(t:PT AVal)(d:Option Pos)(v:AVal) :PT AVal :=
 match d with
 | some p=>PT.set p (some v) t
 | none=>t
def z48:List AVal->Nat->Nat->PT AVal->Option (PT AVal)
 | [],_,_,t=>some t
 | _::_,_,0,_=>none
 | v::l,i,n+1,t=>z48 l (i+1) n (PT.set (Pos.ofNat i) (some v) t)
def j0c(rec:ACode->Option Pos->AAct->AHeap->Option (AExit×AAct×AHeap))(fi:AFun)(args:List AVal)(h:AHeap) :Option (AExit×AAct×AHeap) :=
 match z48 args 0 fi.ntmps .l with
 | some t=>rec fi.body none ⟨t,[]⟩ h
 | none=>none
def j6z:List Pos->List AVal->PT AVal->Option (PT AVal)
 | [],[],t=>some t
 | p::ps,v::vs,t=>j6z ps vs (PT.set p (some v) t)
 | _,_,_=>none
abbrev Rec:=ACode->Option Pos->AAct->AHeap->Option (AExit×AAct×AHeap)
def z0u(t:PT AVal)(h:AHeap) :List (Pos×Option Nat)->Option (List AVal)
 | []=>some []
 | (p,none)::rs=>match z0u t h rs with
  | some l=>some (tget t p::l)
  | none=>none
 | (p,some 0)::rs=>match tget t p with
  | .ptr b o=>match z04 h b o,z0u t h rs with
   | some v,some l=>some (v::l)
   | _,_=>none
  | _=>none
 | (p,some n)::rs=>match tget t p with
  | .ptr b o=>match z0t h b o n,z0u t h rs with
   | some v,some l=>some (.agg v::l)
   | _,_=>none
  | _=>none
def z55(E:Env)(rec:Rec) :List ADef->AHeap->Option AHeap
 | [],h=>some h
 | .mark p::ps,h=>match PT.get p h.t with
  | some (.dfr true)=>z55 E rec ps (h.kill p)
  | _=>none
 | .fn f args::ps,h=>match Nat.blt f 2147483648 with
  | true=>match PT.get (Pos.ofNat f) E.dsums with
   | some s=>match s args h with
    | some h1=>z55 E rec ps h1
    | none=>none
   | none=>match PT.get (Pos.ofNat f) E.fns with
    | some fi=>match j0c rec fi args h with
     | some (.exit _,_,_)=>none
     | some (.goto _,_,_)=>none
     | some (_,⟨t,[]⟩,h1)=>match z0u t h1 fi.results with
      | some _=>z55 E rec ps h1
      | none=>none
     | _=>none
    | none=>none
  | false=>none
def callF(E:Env)(rec:Rec)(f:FuncId)(args:List AVal)(h:AHeap) :ARes :=
 match Nat.blt f 2147483648,PT.get (Pos.ofNat f) E.fns with
 | true,some fi =>
  match j0c rec fi args h with
  | some (.exit _,_,_)=>none
  | some (.goto _,_,_)=>none
  | some (_,a,h1)=>match z55 E rec a.ds h1 with
   | some h2=>match z0u a.t h2 fi.results with
    | some [v]=>some (v,h2)
    | some l=>some (.tup l,h2)
    | none=>none
   | none=>none
  | none=>none
 | _,_=>none
def z9p(E:Env)(rec:Rec)(f:FuncId)(args:List AVal)(h:AHeap) :ARes :=
 match Nat.blt f 2147483648,PT.get (Pos.ofNat f) E.sums with
 | true,some s=>s args h
 | _,_=>callF E rec f args h
def j3g(rec:Rec)(l:Pos)(args:List AVal)(h:AHeap) :ARes :=
 match PT.get l h.t with
 | some (.loop r)=>match j6z r.params args r.tmps with
  | some t=>match rec r.assign (some l) ⟨t,[]⟩ h with
   | some (.normal,a1,h1)=>match PT.get l h1.t with
    | some (.loop r1)=>match r1.state with
     | .ready=>match rec r.body (some l) a1 (h1.upd l (.loop { r1 with state:=.busy }))with
      | some (e,⟨_,[]⟩,h2)=>match PT.get l h2.t with
       | some (.loop r2)=>match e with
        | .normal=>some (.bool true,h2.upd l (.loop { r2 with state:=.ready,pending:=.none }))
        | .ret=>some (.bool false,h2.upd l (.loop { r2 with state:=.done,pending:=.ret }))
        | .exit id=>some (.bool false,h2.upd l (.loop { r2 with state:=.done,pending:=.exit id }))
        | .goto _=>none
       | _=>none
      | _=>none
     | _=>none
    | _=>none
   | _=>none
  | none=>none
 | _=>none
def z47(E:Env)(rec:Rec)(f:AVal)(args:List AVal)(h:AHeap) :ARes :=
 match f with
 | .func f first caps=>z9p E rec f (first++(args++caps)) h
 | .yld l=>j3g rec l args h
 | _=>none
def z1o(E:Env)(rec:Rec)(t:PT AVal)(h:AHeap) :AOp->ARes
 | .callF f args=>z9p E rec f (evs t args) h
 | .callV f args=>z47 E rec (f.ev t) (evs t args) h
 | op=>z01 t h op
def z0y(t:PT AVal) :Option (Pos×Bool)->Option Bool
 | none=>some true
 | some (p,want)=>match PT.get p t with
  | some (.bool b)=>some (b==want)
  | some (.tup [])=>some false
  | none=>some false
  | _=>none
def z5i{R:Type}(v:AVal)(k:AVal->R) :R :=
 match v with
 | .int q n=>y88 n fun m=>k (.int q m)
 | .bool true=>k (.bool true)
 | .bool false=>k (.bool false)
 | v=>k v
def opsA(E:Env)(rec:Rec)(ds:List ADef) :List AOper->PT AVal->AHeap->Option (AExit×AAct×AHeap)
 | [],t,h=>some (.normal,⟨t,ds⟩,h)
 | o::l,t,h=>match z0y t o.guard with
  | some true=>match o.op with
   | .defer f args=>match f.ev t with
    | .func g first caps=>opsA E rec (.fn g (first++(evs t args++caps))::ds) l (tput t o.dst .undef) h
    | _=>none
   | op=>match z1o E rec t h op with
    | some (v,h')=>z5i v fun v=>opsA E rec ds l (tput t o.dst v) h'
    | none=>none
  | some false=>opsA E rec ds l (tput t o.dst .undef) h
  | none=>none
structure Seen where
 t:PT AVal
 op:AOp
 v:AVal
 bit:Nat
def z3u(ahead:Nat)(h:AHeap) :List Seen->Option (List Seen)
 | []=>some []
 | s::l=>match Nat.beq (Nat.land ahead s.bit) 0 with
  | true=>match quiet s.t h s.op with
   | some v=>match same v s.v with
    | true=>match z3u ahead h l with
     | some l'=>some (s::l')
     | none=>none
    | false=>none
   | none=>none
  | false=>z3u ahead h l
def z3t(E:Env)(rec:Rec)(ds:List ADef) :List ADraw->PT AVal->AHeap->List Seen->Option (AExit×AAct×AHeap)
 | [],t,h,_=>some (.normal,⟨t,ds⟩,h)
 | d::l,t,h,seen=>match z0y t d.o.guard with
  | some true=>match d.cls with
   | 0=>match quiet t h d.o.op with
    | some v=>z5i v fun v=>z3t E rec ds l (tput t d.o.dst v) h (⟨t,d.o.op,v,d.bit⟩::seen)
    | none=>none
   | 1=>match z01 t h d.o.op with
    | some (v,h')=>z3t E rec ds l (tput t d.o.dst v) h' seen
    | none=>none
   | _=>match z1o E rec t h d.o.op with
    | some (v,h')=>match z3u d.ahead h' seen with
     | some seen'=>z5i v fun v=>z3t E rec ds l (tput t d.o.dst v) h' seen'
     | none=>none
    | none=>none
  | some false=>z3t E rec ds l (tput t d.o.dst .undef) h seen
  | none=>none
def j3d(rec:Rec)(b:ACode) :Nat->ACode->Option Pos->AAct->AHeap->Option (AExit×AAct×AHeap)
 | 0,_,_,_,_=>none
 | n+1,c,ro,a,h=>match rec c ro a h with
  | some (.goto l,a',h')=>match b.find l with
   | some c'=>j3d rec b n c' ro a' h'
   | none=>some (.goto l,a',h')
  | r=>r
def ev(E:Env) :Nat->Rec
 | 0,_,_,_,_=>none
 | n+1,c,ro,a,h =>
  match c with
  | .skip=>some (.normal,a,h)
  | .region ops=>opsA E (ev E n) a.ds ops a.t h
  | .draw ops=>z3t E (ev E n) a.ds ops a.t h []
  | .seq x y=>match ev E n x ro a h with
   | some (.normal,a',h')=>ev E n y ro a' h'
   | r=>r
  | .cond x c1 c2=>match x.ev a.t with
   | .bool true=>ev E n c1 ro a h
   | .bool false=>ev E n c2 ro a h
   | _=>none
  | .block id b=>match ev E n b ro a h with
   | some (.exit id',a',h')=>match Nat.beq id id' with
    | true=>some (.normal,a',h')
    | false=>some (.exit id',a',h')
   | r=>r
  | .loop b=>match ev E n b ro a h with
   | some (.normal,a',h')=>ev E n (.loop b) ro a' h'
   | r=>r
  | .rangeFunc f ps assign body =>
   match (match ro with
    | some l=>match PT.get l h.t with
     | some (.loop r)=>some (r.defers,a.ds,h)
     | _=>none
    | none=>match h.new (.dfr true)with
     | (r,h')=>some (r,.mark r::a.ds,h'))with
   | some (dfr,ds,h1)=>match h1.new (.loop ⟨.ready,.none,a.t,ps,assign,body,dfr⟩)with
    | (l,h2)=>match (match f.ev a.t with
      | .func g first caps=>callF E (ev E n) g (first++(AVal.yld l::caps)) h2
      | _=>none)with
     | some (_,h3)=>match PT.get l h3.t with
      | some (.loop r)=>match r.state with
       | .busy=>none
       | _=>match r.pending with
        | .none=>some (.normal,⟨a.t,ds⟩,h3.kill l)
        | .ret=>some (.ret,⟨a.t,ds⟩,h3.kill l)
        | .exit id=>some (.exit id,⟨a.t,ds⟩,h3.kill l)
      | _=>none
     | none=>none
   | none=>none
  | .exit id=>some (.exit id,a,h)
  | .ret=>some (.ret,a,h)
  | .label _=>some (.normal,a,h)
  | .goto l=>some (.goto l,a,h)
  | .scope b=>j3d (ev E n) b n b ro a h
  | .bad=>none
end Go.Am
