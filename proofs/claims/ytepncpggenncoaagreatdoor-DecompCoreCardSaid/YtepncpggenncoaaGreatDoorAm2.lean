import Derived.Test.YtepncpggenncoaaGreatDoorAm1
import GoSem.Core.Region
set_option linter.unusedSimpArgs false
set_option linter.unusedVariables false
set_option maxHeartbeats 8000000
namespace Go.Am
structure Tys where
 info:PT TypeInfo
 /-- How many package-level variables there are. -/
 ng:Nat
 /-- Structs whose values are held against each other. -/
 cmps:List TypeId
def Tys.get(T:Tys)(t:TypeId) :Option TypeInfo:=match Nat.blt t 2147483648 with
 | true=>PT.get (Pos.ofNat t) T.info
 | false=>none
def Tys.und(T:Tys)(t:TypeId) :Option TypeDesc :=
 match T.get t with
 | some i=>match i.desc with
  | .named _ u=>match T.get u with
   | some j=>some j.desc
   | none=>none
  | d=>some d
 | none=>none
def Tys.size(T:Tys)(t:TypeId) :Option Nat:=match T.get t with | some i=>some i.size | none=>none
def Tys.isAgg(T:Tys)(t:TypeId) :Option Bool:=match T.und t with
 | some (.struct _) | some (.array _ _)=>some true
 | some _=>some false
 | none=>none
def j8n:List UInt8->List Nat
 | []=>[]
 | b::l=>b.toNat::j8n l
def j8c:Value->Option AVal
 | .bool b=>some (.bool b)
 | .int k n=>some (.int k n)
 | .string s=>some (.str (j8n s.data.toList))
 | .pointer none=>some .pnil
 | .slice none 0 0=>some .snil
 | .map none=>some .mnil
 | .nilFunc=>some .fnil
 | .nilIface=>some .inil
 | _=>none
def j37:List Value->Option (List AVal)
 | []=>some []
 | v::l=>match j8c v,j37 l with
  | some a,some m=>some (a::m)
  | _,_=>none
def z5t:Value->Option AVal
 | .agg cs=>match j37 cs.toList with
  | some l=>some (.agg l)
  | none=>none
 | .tuple cs=>match j37 cs.toList with
  | some l=>some (.tup l)
  | none=>none
 | .iface t v=>match j8c v with
  | some a=>some (.iface t a)
  | none=>none
 | v=>j8c v
def opnd(T:Tys) :Operand->Option AOpnd
 | .tmp t=>match Nat.blt t 2147483648 with
  | true=>some (.t (Pos.ofNat t))
  | false=>none
 | .const v=>match z5t v with
  | some a=>some (.c a)
  | none=>none
 | .global g=>match Nat.blt g T.ng with
  | true=>some (.c (.ptr (Pos.ofNat g) 0))
  | false=>none
 | .func f=>some (.c (.func f [] []))
def z7i(T:Tys) :List Operand->Option (List AOpnd)
 | []=>some []
 | x::l=>match opnd T x,z7i T l with
  | some a,some m=>some (a::m)
  | _,_=>none
def z5e(T:Tys) :Option Operand->Option (Option AOpnd)
 | none=>some none
 | some x=>match opnd T x with
  | some a=>some (some a)
  | none=>none
def z3c(T:Tys)(t:TypeId) :Option AVal:=match T.get t with
 | some i=>match i.zero with
  | some v=>z5t v
  | none=>none
 | none=>none
def j3o(T:Tys)(fs:List Field) :List (Nat×Operand)->Option (List (Nat×Nat×AOpnd))
 | []=>some []
 | (i,x)::ps=>match fs[i]? with
  | some f=>match T.size f.type,opnd T x,j3o T fs ps with
   | some s,some a,some m=>some ((f.offset,s,a)::m)
   | _,_,_=>none
  | none=>none
def z92(T:Tys)(size:Nat) :List (Nat×Operand)->Option (List (Nat×Nat×AOpnd))
 | []=>some []
 | (i,x)::ps=>match opnd T x,z92 T size ps with
  | some a,some m=>some ((i*size,size,a)::m)
  | _,_=>none
def z8u(T:Tys)(t:TypeId) :Option EqK:=match T.und t with
 | some .bool=>some .bool
 | some (.int _)=>some .int
 | some .string=>some .str
 | _=>none
def eqFields(T:Tys) :List Field->Nat->Option (List EqK)
 | [],_=>some []
 | f::fs,i=>match f.name != "_",Nat.beq f.offset i,T.isAgg f.type,z8u T f.type,eqFields T fs (i+1)with
  | true,true,some false,some q,some m=>some (q::m)
  | _,_,_,_,_=>none
def z5z:Operand->Bool
 | .const _=>true
 | _=>false
def y9l(T:Tys)(t:TypeId)(x y:Operand) :Option EqKs:=match T.und t with
 | some .bool=>some (.one .bool)
 | some (.pointer e)=>match T.size e with | some (_+1)=>some (.one .ptr) | _=>none
 | some (.slice _)=>some (.one .sl)
 | some (.map _ _)=>some (.one .map)
 | some (.func _ _ _)=>some (.one .func)
 | some (.interface _)=>match z5z x || z5z y with | true=>some (.one .iface) | false=>none
 | some (.struct fs)=>match T.cmps.contains t,eqFields T fs.toList 0 with | true,some l=>some (.cells l) | _,_=>none
 | some (.array n e)=>match z8u T e,T.isAgg e,T.size e with | some q,some false,some 1=>some (.cells (List.replicate n q)) | _,_,_=>none
 | _=>none
def z18(T:Tys)(t:TypeId) :Option EqK:=match T.und t with
 | some (.int _)=>some .int
 | some .string=>some .str
 | some (.pointer e)=>match T.size e with | some (_+1)=>some .ptr | _=>none
 | some (.array n e)=>match n,T.und e,T.isAgg e,T.size e with
  | 2,some (.int _),some false,some 1=>some .pair
  | _,_,_,_=>none
 | _=>none
def z4b(T:Tys)(c:Call) :Option AOp :=
 match c.callee with
 | .value (.func f)=>match z7i T c.args.toList with
  | some l=>some (.callF f l)
  | none=>none
 | .value f=>match opnd T f,z7i T c.args.toList with
  | some g,some l=>some (.callV g l)
  | _,_=>none
 | .invoke _ _=>none
 | .builtin b=>match b,c.args.toList,c.argTypes.toList with
  | .len,[x],t::_=>match T.und t,opnd T x with
   | some (.string),some a=>some (.len 0 a)
   | some (.slice _),some a=>some (.len 1 a)
   | some (.map _ _),some a=>some (.len 2 a)
   | some (.array n _),some _=>some (.move (.c (.int .i64 (.ofNat n))))
   | some (.pointer p),some _=>match T.und p with
    | some (.array n _)=>some (.move (.c (.int .i64 (.ofNat n))))
    | _=>none
   | _,_=>none
  | .append,[s,x],ts::tx=>match T.und ts,opnd T s,opnd T x with
   | some (.slice e),some a,some b=>match T.get e with
    | some i=>match (match tx with
      | []=>some true
      | t::_=>match T.und t with
       | some (.int _)=>some false
       | some _=>some true
       | none=>none),i.size,i.bytes,z3c T e with
     | some true,sz+1,by_+1,some _=>some (.append (sz+1) (by_+1) a b)
     | _,_,_,_=>none
    | none=>none
   | _,_,_=>none
  | .copy,[d,s],t::_=>match T.und t,opnd T d,opnd T s with
   | some (.slice e),some a,some b=>match T.size e with
    | some sz=>some (.copy sz a b)
    | none=>none
   | _,_,_=>none
  | .min,xs,_=>match z7i T xs with
   | some l=>some (.mm false l)
   | none=>none
  | .max,xs,_=>match z7i T xs with
   | some l=>some (.mm true l)
   | none=>none
  | .clear,[x],t::_=>match T.und t,opnd T x with
   | some (.slice e),some a=>match z3c T e,T.size e with
    | some z,some (_+1)=>some (.clear (z3e z) a)
    | _,_=>none
   | _,_=>none
  | .delete,[m,k],t::_=>match T.und t,opnd T m,opnd T k with
   | some (.map kt _),some a,some b=>match z18 T kt with
    | some q=>some (.mapUpdate q a b (.c .any))
    | none=>none
   | _,_,_=>none
  | _,_,_=>none
def z2r(T:Tys)(o:Op) :Option AOp :=
 match o with
 | .move x | .assign x=>match opnd T x with
  | some a=>some (.move a)
  | none=>none
 | .pick c a b=>match opnd T c,opnd T a,opnd T b with
  | some c,some a,some b=>some (.pick c a b)
  | _,_,_=>none
 | .alloc e=>match z3c T e with
  | some z=>some (.alloc (z3e z))
  | none=>none
 | .box _ x=>match opnd T x with
  | some a=>some (.box a)
  | none=>none
 | .build t ps=>match z3c T t,T.und t with
  | some z,some (.struct fs)=>match j3o T fs.toList ps.toList,fs.toList.all fun f=>(T.size f.type).isSome with
   | some l,true=>some (.build (z3e z) l)
   | _,_=>none
  | some z,some (.array _ e)=>match T.size e with
   | some s=>match z92 T s ps.toList with
    | some l=>some (.build (z3e z) l)
    | none=>none
   | none=>none
  | _,_=>none
 | .buildSlice t len ps=>match T.und t with
  | some (.slice e)=>match T.size e,z3c T e with
   | some s,some z=>match z92 T s ps.toList,Nat.ble (len*s) 16777216 with
    | some l,true=>some (.buildSlice (repl (z3e z) len) len l)
    | _,_=>none
   | _,_=>none
  | _=>none
 | .load t x=>match T.isAgg t,T.size t,opnd T x with
  | some true,some n,some a=>some (.loadN n a)
  | some false,some _,some a=>some (.load1 a)
  | _,_,_=>none
 | .store t x y=>match T.size t,opnd T x,opnd T y with
  | some n,some a,some b=>some (.store n a b)
  | _,_,_=>none
 | .nilCheck x=>match opnd T x with
  | some a=>some (.nilCheck a)
  | none=>none
 | .binOp op t x y _=>match opnd T x,opnd T y with
  | some a,some b=>match T.und t with
   | some (.int _) | some .string=>some (.bin op a b)
   | _=>match op,y9l T t x y with
    | .eql,some n=>some (.eq false n a b)
    | .neq,some n=>some (.eq true n a b)
    | _,_=>none
  | _,_=>none
 | .unOp op _ x=>match opnd T x with
  | some a=>some (.un op a)
  | none=>none
 | .convert s d x=>match T.und s,T.und d,opnd T x with
  | some (.int _),some (.int k),some a=>some (.conv (.toInt k) a)
  | some .string,some .string,some a=>some (.conv .same a)
  | some .string,some (.slice e),some a=>match T.und e with
   | some (.int .u8)=>some (.conv .strBytes a)
   | _=>none
  | some (.slice e),some .string,some a=>match T.und e with
   | some (.int .u8)=>some (.conv .bytesStr a)
   | _=>none
  | some (.slice _),some (.slice e),some a=>match Nat.beq s d,T.und e with
   | true,some (.int .u8)=>some (.conv .mark a)
   | _,_=>none
  | _,_,_=>none
 | .fieldAddr s x f=>match T.und s,opnd T x with
  | some (.struct fs),some a=>match fs[f]? with
   | some fd=>match T.size fd.type with
    | some (_+1)=>some (.fieldAddr fd.offset a)
    | _=>none
   | none=>none
  | _,_=>none
 | .indexAddr t x i=>match T.und t,opnd T x,opnd T i with
  | some (.slice e),some a,some b=>match T.size e with
   | some s=>some (.idxS s a b)
   | none=>none
  | some (.array n e),some a,some b=>match T.size e with
   | some s=>some (.idxA n s a b)
   | none=>none
  | _,_,_=>none
 | .field t x f=>match T.und t,opnd T x with
  | some (.struct fs),some a=>match fs[f]? with
   | some fd=>match T.isAgg fd.type,T.size fd.type with
    | some true,some n=>some (.fieldN fd.offset n a)
    | some false,some _=>some (.field1 fd.offset a)
    | _,_=>none
   | none=>none
  | _,_=>none
 | .index t x i=>match T.und t,opnd T x,opnd T i with
  | some .string,some a,some b=>some (.idxStr a b)
  | some (.array n e),some a,some b=>match T.isAgg e,T.size e with
   | some false,some 1=>some (.idxArr n a b)
   | _,_=>none
  | _,_,_=>none
 | .slice t x lo hi mx=>match opnd T x,z5e T lo,z5e T hi,z5e T mx with
  | some a,some l,some h,some m=>match (match m,h with | some _,none=>none | _,_=>T.und t)with
   | some .string=>some (.slice .str a l h m)
   | some (.slice e)=>match T.size e with
    | some (s+1)=>some (.slice (.sl (s+1)) a l h m)
    | _=>none
   | some (.array n e)=>match T.size e with
    | some (s+1)=>some (.slice (.arr n (s+1)) a l h m)
    | _=>none
   | _=>none
  | _,_,_,_=>none
 | .sliceToArrayPointer t x=>match T.und t,opnd T x with
  | some (.array (n+1) _),some a=>some (.s2ap (n+1) a)
  | _,_=>none
 | .makeInterface t x=>match T.und t,opnd T x with
  | some (.interface _),_=>none
  | some _,some a=>some (.mkI t a)
  | _,_=>none
 | .makeFunc (.func f) first caps=>match z7i T first.toList,z7i T caps.toList with
  | some a,some b=>some (.mkF f a b)
  | _,_=>none
 | .makeMap _ none=>some .mkMap
 | .makeSlice t l c=>match T.und t,opnd T l,opnd T c with
  | some (.slice e),some a,some b=>match T.get e,z3c T e with
   | some i,some z=>some (.mkSlice (z3e z) i.bytes a b)
   | _,_=>none
  | _,_,_=>none
 | .lookup t x k ok=>match T.und t,opnd T x,opnd T k with
  | some (.map kt e),some a,some b=>match z18 T kt,z3c T e with
   | some q,some z=>some (.lookup q z a b ok)
   | _,_=>none
  | _,_,_=>none
 | .mapUpdate t m k v=>match T.und t,opnd T m,opnd T k,opnd T v with
  | some (.map kt _),some a,some b,some c=>match z18 T kt with
   | some q=>some (.mapUpdate q a b c)
   | none=>none
  | _,_,_,_=>none
 | .extract x i=>match opnd T x with
  | some a=>some (.extract a i)
  | none=>none
 | .call c=>z4b T c
 | .defer c=>match c.callee with
  | .value f=>match opnd T f,z7i T c.args.toList with
   | some g,some l=>some (.defer g l)
   | _,_=>none
  | _=>none
 | _=>none
def j5i(ops:List Oper) :Option (Nat×Bool)->Option (Option (Pos×Bool))
 | none=>some none
 | some (j,want)=>match ops[j]? with
  | some o=>match o.dst with
   | some d=>match Nat.blt d 2147483648 with
    | true=>some (some (Pos.ofNat d,want))
    | false=>none
   | none=>none
  | none=>none
def j79(nt:Nat) :Option Tmp->Option (Option Pos)
 | none=>some none
 | some d=>match Nat.blt d nt with
  | true=>some (some (Pos.ofNat d))
  | false=>none
def z8z(T:Tys)(nt:Nat)(ops:List Oper)(o:Oper) :Option AOper :=
 match j5i ops o.guard,j79 nt o.dst with
 | some g,some d=>match z2r T o.op with
  | some a=>some ⟨d,a,g⟩
  | none=>some ⟨d,.bad,g⟩
 | _,_=>none
def z0n(T:Tys)(nt:Nat)(ops:List Oper) :List Oper->Option (List AOper)
 | []=>some []
 | o::l=>match z8z T nt ops o,z0n T nt ops l with
  | some a,some m=>some (a::m)
  | _,_=>none
def z0v:AOp->Bool
 | .alloc _ | .box _ | .buildSlice .. | .store .. | .conv .strBytes _ | .conv .mark _ | .mkMap | .mkSlice .. | .mapUpdate .. | .append .. | .copy .. | .callF .. | .callV .. | .clear .. | .defer .. | .bad=>false
 | _=>true
def j50:AOp->Nat
 | .alloc _ | .box _ | .buildSlice .. | .mkSlice ..=>1
 | op=>match z0v op with
  | true=>0
  | false=>2
def z94:List Edge->Nat
 | []=>0
 | e::l=>match Region.binds .any e with
  | true=>Nat.lor (Nat.pow 2 e.on) (z94 l)
  | false=>z94 l
def j57(before:List Nat) :List Edge->Nat
 | []=>0
 | e::l=>match Region.binds .any e with
  | true=>Nat.lor (Nat.lor (Nat.pow 2 e.on) (before.getD e.on 0)) (j57 before l)
  | false=>j57 before l
def z61(T:Tys)(nt:Nat)(ops:List Oper) :List Oper->Nat->List Nat->Option (List ADraw)
 | [],_,_=>some []
 | o::l,i,before=>match z8z T nt ops o with
  | some a=>match z61 T nt ops l (i+1) (before++[j57 before o.after.toList])with
   | some m=>some (⟨a,j50 a.op,i,Nat.pow 2 i,z94 o.after.toList,j57 before o.after.toList⟩::m)
   | none=>none
  | none=>none
def hasB(m b:Nat) :Bool:=Nat.beq (Nat.land m b) b
def j9n(D:List ADraw)(m:Nat) :Nat :=
 match D with
 | []=>0
 | d::l=>match d.cls,hasB m d.bit with
  | 2,true=>Nat.succ (j9n l m)
  | _,_=>j9n l m
def j45(D:List ADraw)(k:Nat)(loud:Bool) :List ADraw->List ADraw
 | []=>[]
 | d::l=>match Nat.beq (j9n D d.ahead) k,Nat.beq d.cls 2==loud with
  | true,true=>d::j45 D k loud l
  | _,_=>j45 D k loud l
def j7g(D:List ADraw) :Nat->List ADraw
 | 0=>j45 D 0 false D++j45 D 0 true D
 | k+1=>j7g D k++(j45 D (k+1) false D++j45 D (k+1) true D)
def AOpnd.tmp:AOpnd->List Pos
 | .t p=>[p]
 | .c _=>[]
def y3s:List AOpnd->List Pos
 | []=>[]
 | x::l=>x.tmp++y3s l
def q5y:List (Nat×Nat×AOpnd)->List Pos
 | []=>[]
 | (_,_,x)::l=>x.tmp++q5y l
def j8x:Option AOpnd->List Pos
 | none=>[]
 | some x=>x.tmp
def AOp.tmps:AOp->List Pos
 | .move x | .box x | .load1 x | .loadN _ x | .nilCheck x | .un _ x | .conv _ x | .fieldAddr _ x | .field1 _ x | .fieldN _ _ x | .s2ap _ x | .mkI _ x | .extract x _ | .len _ x | .clear _ x=>x.tmp
 | .pick c a b=>c.tmp++(a.tmp++b.tmp)
 | .alloc _ | .mkMap | .bad=>[]
 | .build _ ps | .buildSlice _ _ ps=>q5y ps
 | .store _ x y | .bin _ x y | .eq _ _ x y | .idxS _ x y | .idxA _ _ x y | .idxStr x y | .idxArr _ x y | .mkSlice _ _ x y | .lookup _ _ x y _ | .append _ _ x y | .copy _ x y=>x.tmp++y.tmp
 | .slice _ x lo hi mx=>x.tmp++(j8x lo++(j8x hi++j8x mx))
 | .mkF _ a b=>y3s a++y3s b
 | .mapUpdate _ m k v=>m.tmp++(k.tmp++v.tmp)
 | .callF _ l | .mm _ l=>y3s l
 | .callV f l | .defer f l=>f.tmp++y3s l
def q5z:Option (Pos×Bool)->List Pos
 | none=>[]
 | some (p,_)=>[p]
def AOper.tmps(o:AOper) :List Pos:=o.op.tmps++q5z o.guard
def k26(D:List ADraw)(e:ADraw) :Bool :=
 e.o.tmps.all fun p=>D.all fun x=>match x.o.dst with
  | some q=>match Pos.beq q p with
   | true=>Nat.beq x.idx e.idx || (hasB e.ahead x.bit || hasB x.ahead e.bit)
   | false=>true
  | none=>true
def k25(D:List ADraw)(e:ADraw) :Bool :=
 D.all fun x=>Nat.beq x.idx e.idx || match x.o.dst,e.o.dst with
  | some p,some q=>!Pos.beq p q
  | _,_=>true
def z73(D:List ADraw)(need:Nat) :Nat :=
 match D with
 | []=>0
 | x::l=>match hasB need x.bit with
  | true=>Nat.lor (Nat.lor x.bit x.ahead) (z73 l need)
  | false=>z73 l need
def j1g(D:List ADraw)(n:Nat) :List ADraw->Nat->Nat->Bool
 | [],M,_=>Nat.beq M (Nat.pred (Nat.pow 2 n))
 | e::l,M,ML=>(Nat.beq (Nat.land M e.bit) 0 && (hasB M e.need && (hasB e.ahead ML && (k26 D e && (k25 D e && hasB (z73 D e.need) e.ahead))))) &&
  j1g D n l (Nat.lor M e.bit) (match Nat.beq e.cls 2 with | true=>Nat.lor ML e.bit | false=>ML)
def j0w(T:Tys)(nt:Nat)(ops:List Oper) :Option (List ADraw) :=
 match z61 T nt ops ops 0 []with
 | some D=>match j7g D D.length with
  | S=>match j1g D ops.length S 0 0 with
   | true=>some S
   | false=>none
 | none=>none
def j9s:AOp->Bool
 | .defer ..=>true
 | _=>false
def z6l:List AOper->Bool
 | []=>true
 | o::l=>!j9s o.op && z6l l
def comp(T:Tys)(nt:Nat)(rnd:Bool) :Code->ACode
 | .skip=>.skip
 | .label l=>.label l
 | .region _ ops draw=>match draw with
  | false=>match z0n T nt ops.toList ops.toList with
   | some l=>match rnd,z6l l with
    | true,false=>.bad
    | _,_=>.region l
   | none=>.bad
  | true=>match j0w T nt ops.toList with
   | some l=>.draw l
   | none=>.bad
 | .seq a b=>.seq (comp T nt rnd a) (comp T nt rnd b)
 | .cond c a b=>match opnd T c with
  | some x=>.cond x (comp T nt rnd a) (comp T nt rnd b)
  | none=>.bad
 | .block id b=>.block id (comp T nt rnd b)
 | .loop b=>.loop (comp T nt rnd b)
 | .rangeFunc f ps a b=>match opnd T f,ps.toList.all (Nat.blt · nt)with
  | some x,true=>.rangeFunc x (ps.toList.map Pos.ofNat) (comp T nt true a) (comp T nt true b)
  | _,_=>.bad
 | .exit id=>.exit id
 | .ret=>.ret
 | .scope b=>.scope (comp T nt rnd b)
 | .goto l=>.goto l
 | .refuse _=>.bad
def z2q(T:Tys) :List ResultVar->Option (List (Pos×Option Nat))
 | []=>some []
 | .tmp t::l=>match Nat.blt t 2147483648,z2q T l with
  | true,some m=>some ((Pos.ofNat t,none)::m)
  | _,_=>none
 | .cell a t::l=>match Nat.blt a 2147483648,T.isAgg t,T.size t,z2q T l with
  | true,some true,some (n+1),some m=>some ((Pos.ofNat a,some (n+1))::m)
  | true,some false,some _,some m=>some ((Pos.ofNat a,some 0)::m)
  | _,_,_,_=>none
def z46(T:Tys)(f:Func) :Option AFun :=
 match f.body,z2q T f.results.toList,Nat.blt f.ntmps 2147483648 with
 | some c,some rs,true=>some ⟨f.ntmps,comp T f.ntmps false c,rs⟩
 | _,_,_=>none
def y3p:List TypeInfo->Nat->PT TypeInfo->PT TypeInfo
 | [],_,t=>t
 | i::l,n,t=>y3p l (n+1) (PT.set (Pos.ofNat n) (some i) t)
noncomputable section
def getN{α:Type}(_:PT α)(v:Option α)(_:PT α)(iha ihb:Pos->Option α)(p:Pos) :Option α :=
 @Pos.rec (fun _=>Option α) v (fun q _=>iha q) (fun q _=>ihb q) p
def getF{α:Type}(t:PT α) :Pos->Option α :=
 @PT.rec α (fun _=>Pos->Option α) (fun _=>none) getN t
def setL{α:Type}(p:Pos)(x:Option α) :PT α:=PT.one p x
def setN{α:Type}(a:PT α)(v:Option α)(b:PT α)(iha ihb:Pos->Option α->PT α)(p:Pos) :Option α->PT α :=
 @Pos.rec (fun _=>Option α->PT α) (fun x=>.n a x b) (fun q _ x=>.n (iha q x) v b) (fun q _ x=>.n a v (ihb q x)) p
def setF{α:Type}(t:PT α) :Pos->Option α->PT α :=
 @PT.rec α (fun _=>Pos->Option α->PT α) setL setN t
abbrev KR:=Option (AExit×AAct×AHeap)
abbrev KV:=AVal->AHeap->KR
def y7n(v:Option AVal) :AVal:=@Option.rec AVal (fun _=>AVal) .undef (fun v=>v) v
def k2f(p:Pos)(t:PT AVal) :AVal:=y7n (getF t p)
def cstF(v:AVal)(_:PT AVal) :AVal:=v
def evO(x:AOpnd) :PT AVal->AVal:=@AOpnd.rec (fun _=>PT AVal->AVal) k2f cstF x
def y7q:AVal->(IntKind->Int->KR)->KR->KR:=@AVal.rec (fun _=>(IntKind->Int->KR)->KR->KR) (fun _=>PUnit) (fun _=>fun _ d=>d) (fun k n=>fun f _=>f k n) (fun _=>fun _ d=>d) (fun _ d=>d) (fun _ _=>fun _ d=>d) (fun _ d=>d) (fun _ _ _ _ _=>fun _ d=>d) (fun _ d=>d) (fun _=>fun _ d=>d) (fun _ d=>d) (fun _ _ _ _ _=>fun _ d=>d) (fun _=>fun _ d=>d) (fun _ d=>d) (fun _ _ _=>fun _ d=>d) (fun _ _=>fun _ d=>d) (fun _ _=>fun _ d=>d) (fun _ d=>d) PUnit.unit (fun _ _ _ _=>PUnit.unit)
def y1x:AVal->(Bool->KR)->KR->KR:=@AVal.rec (fun _=>(Bool->KR)->KR->KR) (fun _=>PUnit) (fun b=>fun f _=>f b) (fun _ _=>fun _ d=>d) (fun _=>fun _ d=>d) (fun _ d=>d) (fun _ _=>fun _ d=>d) (fun _ d=>d) (fun _ _ _ _ _=>fun _ d=>d) (fun _ d=>d) (fun _=>fun _ d=>d) (fun _ d=>d) (fun _ _ _ _ _=>fun _ d=>d) (fun _=>fun _ d=>d) (fun _ d=>d) (fun _ _ _=>fun _ d=>d) (fun _ _=>fun _ d=>d) (fun _ _=>fun _ d=>d) (fun _ d=>d) PUnit.unit (fun _ _ _ _=>PUnit.unit)
def y4f:AVal->(Pos->Nat->KR)->KR->KR:=@AVal.rec (fun _=>(Pos->Nat->KR)->KR->KR) (fun _=>PUnit) (fun _=>fun _ d=>d) (fun _ _=>fun _ d=>d) (fun _=>fun _ d=>d) (fun _ d=>d) (fun b o=>fun f _=>f b o) (fun _ d=>d) (fun _ _ _ _ _=>fun _ d=>d) (fun _ d=>d) (fun _=>fun _ d=>d) (fun _ d=>d) (fun _ _ _ _ _=>fun _ d=>d) (fun _=>fun _ d=>d) (fun _ d=>d) (fun _ _ _=>fun _ d=>d) (fun _ _=>fun _ d=>d) (fun _ _=>fun _ d=>d) (fun _ d=>d) PUnit.unit (fun _ _ _ _=>PUnit.unit)
def onSl:AVal->(Pos->Nat->Nat->Nat->Nat->KR)->KR->KR:=@AVal.rec (fun _=>(Pos->Nat->Nat->Nat->Nat->KR)->KR->KR) (fun _=>PUnit) (fun _=>fun _ d=>d) (fun _ _=>fun _ d=>d) (fun _=>fun _ d=>d) (fun _ d=>d) (fun _ _=>fun _ d=>d) (fun _ d=>d) (fun b o l c z=>fun f _=>f b o l c z) (fun _ d=>d) (fun _=>fun _ d=>d) (fun _ d=>d) (fun _ _ _ _ _=>fun _ d=>d) (fun _=>fun _ d=>d) (fun _ d=>d) (fun _ _ _=>fun _ d=>d) (fun _ _=>fun _ d=>d) (fun _ _=>fun _ d=>d) (fun _ d=>d) PUnit.unit (fun _ _ _ _=>PUnit.unit)
def y7r:AObj->(List AVal->Bool->Bool->KR)->KR->KR :=
 @AObj.rec (fun _=>(List AVal->Bool->Bool->KR)->KR->KR) (fun l a b f _=>f l a b) (fun _ _ d=>d) (fun _ _ d=>d) (fun _ _ d=>d) (fun _ _ d=>d) (fun _ _ d=>d)
def k0d:Option AVal->(AVal->KR)->KR->KR:=@Option.rec AVal (fun _=>(AVal->KR)->KR->KR) (fun _ d=>d) (fun a f _=>f a)
def k0f:Option AObj->(AObj->KR)->KR->KR:=@Option.rec AObj (fun _=>(AObj->KR)->KR->KR) (fun _ d=>d) (fun a f _=>f a)
def q4j:Option (List AVal)->(List AVal->KR)->KR->KR:=@Option.rec (List AVal) (fun _=>(List AVal->KR)->KR->KR) (fun _ d=>d) (fun a f _=>f a)
def k0g:Option Nat->(Nat->KR)->KR->KR:=@Option.rec Nat (fun _=>(Nat->KR)->KR->KR) (fun _ d=>d) (fun a f _=>f a)
def onKR:KR->(AExit×AAct×AHeap->KR)->KR->KR:=@Option.rec (AExit×AAct×AHeap) (fun _=>(AExit×AAct×AHeap->KR)->KR->KR) (fun _ d=>d) (fun a f _=>f a)
def q62:Option (Pos×Bool)->(Pos×Bool->KR)->KR->KR:=@Option.rec (Pos×Bool) (fun _=>(Pos×Bool->KR)->KR->KR) (fun _ d=>d) (fun a f _=>f a)
def y8n:AVal->Bool:=@AVal.rec (fun _=>Bool) (fun _=>PUnit) (fun _=>true) (fun _ _=>true) (fun _=>true) (true) (fun _ _=>true) (true) (fun _ _ _ _ _=>true) (true) (fun _=>true) (true) (fun _ _ _ _ _=>true) (fun _=>true) (true) (fun _ _ _=>true) (fun _l _i1=>false) (fun _l _i1=>false) (false) PUnit.unit (fun _ _ _ _=>PUnit.unit)
def ifB:Bool->KR->KR->KR:=@Bool.rec (fun _=>KR->KR->KR) (fun _ d=>d) (fun a _=>a)
def fNat:Nat->(Nat->KR)->KR:=@Nat.rec (fun _=>(Nat->KR)->KR) (fun k=>k 0) (fun m _ k=>k (Nat.succ m))
def fInt:Int->(Int->KR)->KR:=@Int.rec (fun _=>(Int->KR)->KR) (fun m k=>fNat m fun m=>k (.ofNat m)) (fun m k=>fNat m fun m=>k (.negSucc m))
def kInt(q:IntKind)(n:Int)(k:KV)(h:AHeap) :KR:=fInt n fun m=>k (.int q m) h
def cmpR(b:Bool)(k:KV)(h:AHeap) :KR:=ifB b (k (.bool true) h) (k (.bool false) h)
def iAdd(q:IntKind)(x y:Int)(k:KV)(h:AHeap) :KR:=kInt q (z1n q (addI x y)) k h
def iSub(q:IntKind)(x y:Int)(k:KV)(h:AHeap) :KR:=kInt q (z1n q (subI x y)) k h
def iLss(_:IntKind)(x y:Int)(k:KV)(h:AHeap) :KR:=cmpR (ltI x y) k h
def iLeq(_:IntKind)(x y:Int)(k:KV)(h:AHeap) :KR:=cmpR (!(ltI y x)) k h
def iGtr(_:IntKind)(x y:Int)(k:KV)(h:AHeap) :KR:=cmpR (ltI y x) k h
def iGeq(_:IntKind)(x y:Int)(k:KV)(h:AHeap) :KR:=cmpR (!(ltI x y)) k h
def iEql(_:IntKind)(x y:Int)(k:KV)(h:AHeap) :KR:=cmpR (eqI x y) k h
def iNeq(_:IntKind)(x y:Int)(k:KV)(h:AHeap) :KR:=cmpR (!(eqI x y)) k h
def kV(v:AVal)(k:KV)(h:AHeap) :KR:=z5i v fun v=>k v h
def kOV:Option AVal->KV->AHeap->KR:=@Option.rec AVal (fun _=>KV->AHeap->KR) (fun _ _=>none) kV
def j2x(op:BinOp)(q:IntKind)(x y:Int)(k:KV)(h:AHeap) :KR:=kOV (z6s op q x y) k h
def intF:BinOp->IntKind->Int->Int->KV->AHeap->KR :=
 @BinOp.rec (fun _=>IntKind->Int->Int->KV->AHeap->KR) iAdd iSub (j2x .mul) (j2x .quo) (j2x .rem) (j2x .and) (j2x .or) (j2x .xor) (j2x .shl) (j2x .shr) (j2x .andNot)
  iEql iNeq iLss iLeq iGtr iGeq
def y8m:BinOp->Bool:=@BinOp.rec (fun _=>Bool) false false false false false false false false true true false false false false false false false
def bin2(op:BinOp)(_vx vy:AVal)(k:KV)(h:AHeap)(q:IntKind)(x:Int) :KR :=
 y7q vy (fun q' y=>ifB (kbeq q q') (intF op q x y k h) none) none
def binF(op:BinOp)(vx vy:AVal)(k:KV)(h:AHeap) :KR :=
 ifB (y8m op) (kOV (z0l op vx vy) k h) (y7q vx (bin2 op vx vy k h) (kOV (z0l op vx vy) k h))
abbrev QF:=PT AVal->AHeap->KV->KR
def q6l(c a b:AOpnd) :QF:=fun t h k=>y1x (evO c t) (fun z=>ifB z (k (evO a t) h) (k (evO b t) h)) none
def q6n(o:Nat)(h:AHeap)(k:KV)(l:List AVal)(_ _:Bool) :KR:=k0d (lget l o) (fun v=>k v h) none
def y69(h:AHeap)(k:KV)(b:Pos)(o:Nat) :KR:=k0f (getF h.t b) (fun x=>y7r x (q6n o h k) none) none
def y7b(x:AOpnd) :QF:=fun t h k=>y4f (evO x t) (y69 h k) none
def z88(off:Nat)(x:AOpnd) :QF:=fun t h k=>y4f (evO x t) (fun b o=>fNat (Nat.add o off) fun o=>k (.ptr b o) h) none
def qBin(op:BinOp)(x y:AOpnd) :QF:=fun t h k=>binF op (evO x t) (evO y t) k h
def qNil(x:AOpnd) :QF:=fun t h k=>y4f (evO x t) (fun b o=>k (.ptr b o) h) (kOV (quiet t h (.nilCheck x)) k h)
def q4a(sz:Nat)(h:AHeap)(k:KV)(b:Pos)(o len:Nat)(i:Nat) :KR:=ifB (Nat.blt i len) (fNat (Nat.add o (Nat.mul i sz)) fun o=>k (.ptr b o) h) none
def q4b(sz:Nat)(vi:AVal)(h:AHeap)(k:KV)(b:Pos)(o len _cap _s:Nat) :KR:=k0g (z3j vi) (q4a sz h k b o len) none
def q6p(sz:Nat)(x i:AOpnd) :QF:=fun t h k=>onSl (evO x t) (q4b sz (evO i t) h k) none
def q4c(n sz:Nat)(vi:AVal)(h:AHeap)(k:KV)(b:Pos)(o:Nat) :KR:=k0g (z3j vi) (q4a sz h k b o n) none
def q6q(n sz:Nat)(x i:AOpnd) :QF:=fun t h k=>y4f (evO x t) (q4c n sz (evO i t) h k) none
def qLen(n:Nat)(x:AOpnd) :QF:=fun t h k=>ifB (Nat.beq n 1) (onSl (evO x t) (fun _ _ n _ _=>k (.int .i64 (.ofNat n)) h) (kOV (quiet t h (.len n x)) k h)) (kOV (quiet t h (.len n x)) k h)
def y7d(q:IntKind)(x:AOpnd) :QF:=fun t h k=>y7q (evO x t) (fun _ n=>kInt q (z1n q n) k h) none
def k20:AVal×AHeap->KV->KR:=@Prod.rec AVal AHeap (fun _=>KV->KR) (fun v h k=>z5i v fun v=>k v h)
def kRes:ARes->KV->KR:=@Option.rec (AVal×AHeap) (fun _=>KV->KR) (fun _=>none) k20
def z3h(op:AOp) :QF:=fun t h k=>kRes (z01 t h op) k
def q6k(h:AHeap)(k:KV)(b:Pos)(o:Nat)(y:AVal)(l:List AVal)(op ro:Bool) :KR :=
 ifB ro none (q4j (lset l o y) (fun l'=>k .undef (⟨setF h.t b (some (.cells l' op false)),h.nx⟩)) none)
def y66(h:AHeap)(k:KV)(y:AVal)(b:Pos)(o:Nat) :KR:=k0f (getF h.t b) (fun x=>y7r x (q6k h k b o y) none) none
def y67(n:Nat)(x y:AOpnd)(t:PT AVal)(h:AHeap)(k:KV) :KR :=
 ifB (y8n (evO y t)) (y4f (evO x t) (y66 h k (evO y t)) none) (kRes (z01 t h (.store n x y)) k)
def y68(n:Nat)(x y:AOpnd) :QF:=fun t h k=>ifB (Nat.beq n 1) (y67 n x y t h k) (kRes (z01 t h (.store n x y)) k)
def k2l:AConv->AOpnd->QF:=@AConv.rec (fun _=>AOpnd->QF) y7d (fun x=>z3h (.conv .strBytes x)) (fun x=>z3h (.conv .bytesStr x)) (fun x=>z3h (.conv .same x)) (fun x=>z3h (.conv .mark x))
abbrev Rec':=ACode->Option Pos->AAct->AHeap->KR
abbrev LF:=List ADef->PT AVal->AHeap->KR
abbrev XF:=Env->Rec'->Option Pos->LF->List ADef->PT AVal->AHeap->KR
def putD:Option Pos->AVal->PT AVal->PT AVal:=@Option.rec Pos (fun _=>AVal->PT AVal->PT AVal) (fun _ t=>t) (fun p v t=>setF t p (some v))
def j0h(d:Option Pos)(next:LF)(ds:List ADef)(t:PT AVal)(v:AVal)(h:AHeap) :KR:=next ds (putD d v t) h
def evsF(l:List AOpnd) :PT AVal->List AVal:=@List.rec AOpnd (fun _=>PT AVal->List AVal) (fun _=>[]) (fun x _ ih t=>evO x t::ih t) l
def q8i(f:FuncId)(args:List AOpnd) :XF:=fun E rec d next ds t h=>kRes (z9p E rec f (evsF args t) h) (j0h d next ds t)
def q8h(f:AOpnd)(args:List AOpnd) :XF:=fun E rec d next ds t h=>kRes (z47 E rec (evO f t) (evsF args t) h) (j0h d next ds t)
def xQ(q:QF) :XF:=fun _ _ d next ds t h=>q t h (j0h d next ds t)
def k2e(x:AOpnd) :XF:=fun _ _ d next ds t h=>next ds (putD d (evO x t) t) h
def q8g(f:AOpnd)(args:List AOpnd) :XF:=fun _ _ d next ds t h =>
 match f.ev t with
 | .func g first caps=>next (.fn g (first++(evs t args++caps))::ds) (tput t d .undef) h
 | _=>none
def xBad:XF:=fun _ _ _ _ _ _ _=>none
def y4q:AOp->XF:=@AOp.rec (fun _=>XF)
 k2e (fun c a b=>xQ (q6l c a b)) (fun z=>xQ (z3h (.alloc z))) (fun x=>xQ (z3h (.box x))) (fun z ps=>xQ (z3h (.build z ps))) (fun z l ps=>xQ (z3h (.buildSlice z l ps)))
 (fun x=>xQ (y7b x)) (fun n x=>xQ (z3h (.loadN n x))) (fun n x y=>xQ (y68 n x y)) (fun x=>xQ (qNil x)) (fun op x y=>xQ (qBin op x y)) (fun g n x y=>xQ (z3h (.eq g n x y)))
 (fun op x=>xQ (z3h (.un op x))) (fun c x=>xQ (k2l c x)) (fun off x=>xQ (z88 off x)) (fun sz x i=>xQ (q6p sz x i)) (fun n sz x i=>xQ (q6q n sz x i))
 (fun o x=>xQ (z3h (.field1 o x))) (fun o n x=>xQ (z3h (.fieldN o n x))) (fun x i=>xQ (z3h (.idxStr x i))) (fun n x i=>xQ (z3h (.idxArr n x i))) (fun k x l h m=>xQ (z3h (.slice k x l h m)))
 (fun n x=>xQ (z3h (.s2ap n x))) (fun t x=>xQ (z3h (.mkI t x))) (fun f a b=>xQ (z3h (.mkF f a b))) (xQ (z3h .mkMap)) (fun z b l c=>xQ (z3h (.mkSlice z b l c))) (fun q z x k ok=>xQ (z3h (.lookup q z x k ok)))
 (fun q m k v=>xQ (z3h (.mapUpdate q m k v))) (fun x i=>xQ (z3h (.extract x i))) q8i q8h (fun n x=>xQ (qLen n x)) (fun a b s x=>xQ (z3h (.append a b s x))) (fun s d x=>xQ (z3h (.copy s d x))) (fun m xs=>xQ (z3h (.mm m xs)))
 (fun z x=>xQ (z3h (.clear z x))) q8g xBad
def k1a(E:Env)(rec:Rec')(d:Option Pos)(op:AOp)(next:LF)(ds:List ADef)(t:PT AVal)(h:AHeap)(g:Pos×Bool) :KR :=
 @Option.rec Bool (fun _=>KR) none (fun b=>ifB b (y4q op E rec d next ds t h) (next ds (putD d .undef t) h)) (z0y t (some g))
def q99(E:Env)(rec:Rec')(next:LF)(ds:List ADef)(t:PT AVal)(h:AHeap)(d:Option Pos)(op:AOp)(g:Option (Pos×Bool)) :KR :=
 q62 g (k1a E rec d op next ds t h) (y4q op E rec d next ds t h)
def k0e:AOper->(Option Pos->AOp->Option (Pos×Bool)->KR)->KR:=@AOper.rec (fun _=>(Option Pos->AOp->Option (Pos×Bool)->KR)->KR) (fun d o g f=>f d o g)
def k2g(E:Env)(rec:Rec')(o:AOper)(next:LF) :LF:=fun ds t h=>k0e o (q99 E rec next ds t h)
def endF:LF:=fun ds t h=>some (.normal,⟨t,ds⟩,h)
def opsF(E:Env)(rec:Rec')(l:List AOper) :LF:=@List.rec AOper (fun _=>LF) endF (fun o _ ih=>k2g E rec o ih) l
abbrev CF:=Env->Rec'->Option Pos->AAct->AHeap->KR
def q1y:AExit->KR->KR->KR:=@AExit.rec (fun _=>KR->KR->KR) (fun f _=>f) (fun _ d=>d) (fun _ _ d=>d) (fun _ _ d=>d)
def seq2(next:AAct->AHeap->KR)(e:AExit)(p:AAct×AHeap) :KR :=
 @Prod.rec AAct AHeap (fun _=>KR) (fun a h=>q1y e (next a h) (some (e,a,h))) p
def seq1(next:AAct->AHeap->KR)(p:AExit×AAct×AHeap) :KR:=@Prod.rec AExit (AAct×AHeap) (fun _=>KR) (seq2 next) p
def seqF(r:KR)(next:AAct->AHeap->KR) :KR:=@Option.rec (AExit×AAct×AHeap) (fun _=>(AAct->AHeap->KR)->KR) (fun _=>none) (fun p next=>seq1 next p) r next
def k1y:CF:=fun _ _ _ a h=>some (.normal,a,h)
def k2w:AAct->(PT AVal->List ADef->KR)->KR:=@AAct.rec (fun _=>(PT AVal->List ADef->KR)->KR) (fun t ds f=>f t ds)
def q77(ops:List AOper) :CF:=fun E rec _ a h=>k2w a (fun t ds=>opsF E rec ops ds t h)
def k3a(ops:List ADraw) :CF:=fun E rec _ a h=>z3t E rec a.ds ops a.t h []
def cSeq(x y:ACode) :CF:=fun _ rec ro a h=>seqF (rec x ro a h) (rec y ro)
def actT:AAct->PT AVal:=@AAct.rec (fun _=>PT AVal) (fun t _=>t)
def k3b(x:AOpnd)(c1 c2:ACode) :CF:=fun _ rec ro a h=>y1x (evO x (actT a)) (fun b=>ifB b (rec c1 ro a h) (rec c2 ro a h)) none
def k0h:AExit->(Nat->KR)->KR->KR:=@AExit.rec (fun _=>(Nat->KR)->KR->KR) (fun _ d=>d) (fun _ d=>d) (fun id f _=>f id) (fun _ _ d=>d)
def k15(id:Nat)(e:AExit)(a:AAct)(h:AHeap) :KR :=
 k0h e (fun id'=>ifB (Nat.beq id id') (some (.normal,a,h)) (some (.exit id',a,h))) (some (e,a,h))
def k16(id:Nat)(e:AExit)(p:AAct×AHeap) :KR:=@Prod.rec AAct AHeap (fun _=>KR) (k15 id e) p
def q5m(id:Nat)(p:AExit×AAct×AHeap) :KR:=@Prod.rec AExit (AAct×AHeap) (fun _=>KR) (k16 id) p
def k14(id:Nat)(b:ACode) :CF:=fun _ rec ro a h=>onKR (rec b ro a h) (q5m id) none
def k27(b:ACode) :CF:=fun _ rec ro a h=>seqF (rec b ro a h) (rec (.loop b) ro)
def k13(_n:Nat)(f:AOpnd)(ps:List Pos)(assign body:ACode) :CF:=fun E rec ro a h =>
   match (match ro with
    | some l=>match PT.get l h.t with
     | some (.loop r)=>some (r.defers,a.ds,h)
     | _=>none
    | none=>match h.new (.dfr true)with
     | (r,h')=>some (r,.mark r::a.ds,h'))with
   | some (dfr,ds,h1)=>match h1.new (.loop ⟨.ready,.none,a.t,ps,assign,body,dfr⟩)with
    | (l,h2)=>match (match f.ev a.t with
      | .func g first caps=>callF E rec g (first++(AVal.yld l::caps)) h2
      | _=>none)with
     | some (_,h3)=>match PT.get l h3.t with
      | some (.loop r)=>match r.state with
       | .busy=>none
       | _=>match r.pending with
        | .none=>some (.normal,⟨a.t,ds⟩,h3.kill l)
        | .ret=>some (.ret,⟨a.t,ds⟩,h3.kill l)
        | .exit id=>some (.exit id,⟨a.t,ds⟩,h3.kill l)
      | _=>none
     | none=>none
   | none=>none
def k29(id:Nat) :CF:=fun _ _ _ a h=>some (.exit id,a,h)
def cRet:CF:=fun _ _ _ a h=>some (.ret,a,h)
def k1z(n:Nat)(b:ACode) :CF:=fun _ rec ro a h=>j3d rec b n b ro a h
def k28(l:Nat) :CF:=fun _ _ _ a h=>some (.goto l,a,h)
def cBad:CF:=fun _ _ _ _ _=>none
def k1u:ACode->Nat->CF:=@ACode.rec (fun _=>Nat->CF) (fun _=>k1y) (fun o _=>q77 o) (fun o _=>k3a o) (fun x y _ _ _=>cSeq x y) (fun x c d _ _ _=>k3b x c d) (fun i b _ _=>k14 i b) (fun b _ _=>k27 b) (fun f p a b _ _ n=>k13 n f p a b) (fun i _=>k29 i) (fun _=>cRet) (fun b _ n=>k1z n b) (fun _ _=>k1y) (fun l _=>k28 l) (fun _=>cBad)
def evF(E:Env)(n:Nat) :Rec':=@Nat.rec (fun _=>Rec') (fun _ _ _ _=>none) (fun n ih c=>k1u c n E ih) n
end
theorem Pos.toNat_pos:∀ p:Pos,1<=p.toNat
 | .h=>by simp[Pos.toNat]
 | .o p=>by have:=p.toNat_pos;simp[Pos.toNat];omega
 | .i p=>by simp[Pos.toNat]
theorem Pos.toNat_succ:∀ p:Pos,p.succ.toNat=p.toNat+1
 | .h=>rfl
 | .o p=>rfl
 | .i p=>by have:=p.toNat_succ;simp[Pos.succ,Pos.toNat,this];omega
theorem Pos.toNat_inj:∀ {p q:Pos},p.toNat=q.toNat->p=q
 | .h,.h,_=>rfl
 | .h,.o q,e=>by have:=q.toNat_pos;simp[Pos.toNat]at e;omega
 | .h,.i q,e=>by have:=q.toNat_pos;simp[Pos.toNat]at e;omega
 | .o p,.h,e=>by have:=p.toNat_pos;simp[Pos.toNat]at e;omega
 | .i p,.h,e=>by have:=p.toNat_pos;simp[Pos.toNat]at e;omega
 | .o p,.o q,e=>by simp only[Pos.toNat]at e;rw[Pos.toNat_inj (p:=p) (q:=q) (by omega)]
 | .i p,.i q,e=>by simp only[Pos.toNat]at e;rw[Pos.toNat_inj (p:=p) (q:=q) (by omega)]
 | .o p,.i q,e=>by simp only[Pos.toNat]at e;omega
 | .i p,.o q,e=>by simp only[Pos.toNat]at e;omega
theorem Pos.beq_eq:∀ {p q:Pos},Pos.beq p q=true↔p=q
 | .h,.h=>by simp[Pos.beq]
 | .h,.o q=>by simp[Pos.beq]
 | .h,.i q=>by simp[Pos.beq]
 | .o p,.h=>by simp[Pos.beq]
 | .i p,.h=>by simp[Pos.beq]
 | .o p,.o q=>by simp[Pos.beq,Pos.beq_eq (p:=p) (q:=q)]
 | .i p,.i q=>by simp[Pos.beq,Pos.beq_eq (p:=p) (q:=q)]
 | .o p,.i q=>by simp[Pos.beq]
 | .i p,.o q=>by simp[Pos.beq]
theorem Pos.beq_ne{p q:Pos}(h:Pos.beq p q=false) :p≠q:=fun e=>by
 rw[Pos.beq_eq.2 e]at h;cases h
theorem Pos.toNat_ofNatF:∀ (f n:Nat),1<=n->n<2^f->(Pos.ofNatF f n).toNat=n
 | 0,n,h1,h2=>by simp at h2;omega
 | f+1,n,h1,h2=>by
  rw[Pos.ofNatF]
  cases hb:Nat.ble n 1 with
  | true=>have:=Nat.le_of_ble_eq_true hb;simp[Pos.toNat];omega
  | false =>
   have hn:1<n:=by
    rcases Nat.lt_or_ge 1 n with h | h
    .exact h
    .rw[Nat.ble_eq_true_of_le h]at hb;cases hb
   have hd:1<=n/2:=by omega
   have hlt:n/2<2^f:=by rw[Nat.pow_succ]at h2;omega
   have ih:=Pos.toNat_ofNatF f (n/2) hd hlt
   have e1:Nat.div n 2=n/2:=rfl
   have e2:Nat.mod n 2=n%2:=rfl
   simp only[]
   cases hm:Nat.beq (Nat.mod n 2) 0 with
   | true =>
    have:=Nat.eq_of_beq_eq_true hm
    simp only[Pos.toNat,e1,ih];omega
   | false =>
    have:Nat.mod n 2≠0:=fun e=>by rw[e]at hm;cases hm
    simp only[Pos.toNat,e1,ih];omega
theorem Pos.toNat_ofNat{n:Nat}(h:n<2^31) :(Pos.ofNat n).toNat=n+1 :=
 Pos.toNat_ofNatF 32 (n+1) (by omega) (by omega)
theorem Pos.ofNat_inj{m n:Nat}(hm:m<2^31)(hn:n<2^31)(h:Pos.ofNat m=Pos.ofNat n) :m=n:=by
 have:=congrArg Pos.toNat h
 rw[Pos.toNat_ofNat hm,Pos.toNat_ofNat hn]at this
 omega
section
variable{α:Type}
theorem PT.get_l(p:Pos) :PT.get p (.l:PT α)=none:=by cases p<;>rfl
theorem PT.get_one_same:∀ (p:Pos) (x:Option α),PT.get p (PT.one p x)=x
 | .h,x=>rfl
 | .o p,x=>by simp[PT.one,PT.get,PT.get_one_same p x]
 | .i p,x=>by simp[PT.one,PT.get,PT.get_one_same p x]
theorem PT.get_one_other:∀ (p q:Pos) (x:Option α),p≠q->PT.get q (PT.one p x)=none
 | .h,.h,x,h=>absurd rfl h
 | .h,.o q,x,_=>by simp[PT.one,PT.get,PT.get_l]
 | .h,.i q,x,_=>by simp[PT.one,PT.get,PT.get_l]
 | .o p,.h,x,_=>rfl
 | .i p,.h,x,_=>rfl
 | .o p,.o q,x,h=>by simp[PT.one,PT.get,PT.get_one_other p q x (fun e=>h (by rw[e]))]
 | .i p,.i q,x,h=>by simp[PT.one,PT.get,PT.get_one_other p q x (fun e=>h (by rw[e]))]
 | .o p,.i q,x,_=>by simp[PT.one,PT.get,PT.get_l]
 | .i p,.o q,x,_=>by simp[PT.one,PT.get,PT.get_l]
theorem PT.get_set_same:∀ (p:Pos) (x:Option α) (t:PT α),PT.get p (PT.set p x t)=x
 | .h,x,.l=>rfl
 | .o p,x,.l=>PT.get_one_same (.o p) x
 | .i p,x,.l=>PT.get_one_same (.i p) x
 | .h,x,.n a v b=>rfl
 | .o p,x,.n a v b=>by simp[PT.set,PT.get,PT.get_set_same p x a]
 | .i p,x,.n a v b=>by simp[PT.set,PT.get,PT.get_set_same p x b]
theorem PT.get_set_other:∀ (p q:Pos) (x:Option α) (t:PT α),p≠q->PT.get q (PT.set p x t)=PT.get q t
 | p,q,x,.l,h=>by
  have e:PT.set p x (.l:PT α)=PT.one p x:=by cases p<;>rfl
  rw[e,PT.get_one_other p q x h,PT.get_l]
 | .h,.h,x,.n a v b,h=>absurd rfl h
 | .h,.o q,x,.n a v b,_=>rfl
 | .h,.i q,x,.n a v b,_=>rfl
 | .o p,.h,x,.n a v b,_=>rfl
 | .i p,.h,x,.n a v b,_=>rfl
 | .o p,.o q,x,.n a v b,h=>by simp[PT.set,PT.get,PT.get_set_other p q x a (fun e=>h (by rw[e]))]
 | .i p,.i q,x,.n a v b,h=>by simp[PT.set,PT.get,PT.get_set_other p q x b (fun e=>h (by rw[e]))]
 | .o p,.i q,x,.n a v b,_=>rfl
 | .i p,.o q,x,.n a v b,_=>rfl
end
theorem z5x:∀ (l:List AVal) (n:Nat),lget l n=l[n]?
 | [],n=>by simp[lget]
 | a::l,0=>rfl
 | a::l,n+1=>by simp[lget,z5x l n]
theorem y2e:∀ (n:Nat) (l l':List AVal),z9g n l=some l'->l'=l.drop n/\n<=l.length
 | 0,l,l',h=>by simp[z9g]at h;simp[h]
 | n+1,[],l',h=>by simp[z9g]at h
 | n+1,a::l,l',h=>by
  have:=y2e n l l' (by simpa[z9g]using h)
  simp[this.1,this.2]
theorem y18:∀ (n:Nat) (l l':List AVal),z6p n l=some l'->l'=l.take n/\n<=l.length
 | 0,l,l',h=>by simp[z6p]at h;simp[h]
 | n+1,[],l',h=>by simp[z6p]at h
 | n+1,a::l,l',h=>by
  simp only[z6p]at h
  cases hl:z6p n l with
  | none=>simp[hl]at h
  | some m =>
   rw[hl]at h
   have:=y18 n l m hl
   simp at h
   rw[<-h]
   simp[this.1,this.2]
theorem z9d{l l':List AVal}{o n:Nat}(h:lsub l o n=some l') :l'=(l.drop o).take n/\o+n<=l.length:=by
 unfold lsub at h
 cases hd:z9g o l with
 | none=>simp[hd]at h
 | some m =>
  rw[hd]at h
  have h1:=y2e o l m hd
  have h2:=y18 n m l' h
  rw[h1.1]at h2
  refine⟨h2.1,?_⟩
  have:=h2.2
  simp at this
  omega
theorem y2b:∀ (vs l l':List AVal),z6q vs l=some l'->l'=vs++l.drop vs.length/\vs.length<=l.length
 | [],l,l',h=>by simp[z6q]at h;simp[h]
 | v::vs,[],l',h=>by simp[z6q]at h
 | v::vs,a::l,l',h=>by
  simp only[z6q]at h
  cases hl:z6q vs l with
  | none=>simp[hl]at h
  | some m =>
   rw[hl]at h
   have:=y2b vs l m hl
   simp at h
   rw[<-h]
   simp[this.1,this.2]
theorem j1y:∀ (l:List AVal) (o:Nat) (vs l':List AVal),lput l o vs=some l'->l'=l.take o++vs++l.drop (o+vs.length)/\o+vs.length<=l.length
 | l,0,vs,l',h=>by
  have:=y2b vs l l' (by simpa[lput]using h)
  simp[this.1,this.2]
 | [],o+1,vs,l',h=>by simp[lput]at h
 | a::l,o+1,vs,l',h=>by
  simp only[lput]at h
  cases hl:lput l o vs with
  | none=>simp[hl]at h
  | some m =>
   rw[hl]at h
   have:=j1y l o vs m hl
   simp at h
   rw[<-h,this.1]
   refine⟨?_,by simp;omega⟩
   simp[show o+1+vs.length=(o+vs.length)+1 by omega]
theorem j1x{l l' vs:List AVal}{o:Nat}(h:lput l o vs=some l') :l'.length=l.length:=by
 obtain⟨e,hl⟩:=j1y l o vs l' h
 subst e
 simp
 omega
theorem y19{l l' vs:List AVal}{o:Nat}(h:lput l o vs=some l')(i:Nat) :
  l'[i]? = if o<=i/\i<o+vs.length then vs[i-o]? else l[i]?:=by
 obtain⟨e,hl⟩:=j1y l o vs l' h
 subst e
 by_cases h1:i<o
 .rw[if_neg (by omega),List.append_assoc,List.getElem?_append_left (by simp;omega),List.getElem?_take_of_lt h1]
 .by_cases h2:i<o+vs.length
  .rw[if_pos ⟨by omega,h2⟩,List.append_assoc,List.getElem?_append_right (by simp;omega),List.getElem?_append_left (by simp;omega)]
   congr 1
   simp
   omega
  .rw[if_neg (by omega),List.getElem?_append_right (by simp;omega),List.getElem?_drop]
   congr 1
   simp
   omega
end Go.Am
