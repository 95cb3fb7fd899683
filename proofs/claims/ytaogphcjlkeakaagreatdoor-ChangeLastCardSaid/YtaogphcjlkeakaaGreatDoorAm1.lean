/- Part of the proof: AmDefs, AmComp, AmFast, AmTrie. -/
import GoSem.Dispatch
import GoSem.Core.Region
set_option linter.unusedSimpArgs false
set_option linter.unusedVariables false
section
namespace Go.Am
inductive Pos where
 | h
 | o (p:Pos)
 | i (p:Pos)
 deriving Inhabited
def Pos.succ:Pos→Pos
 | .h=>.o .h
 | .o p=>.i p
 | .i p=>.o p.succ
def Pos.toNat:Pos→Nat
 | .h=>1
 | .o p=>2 * p.toNat
 | .i p=>2 * p.toNat + 1
def Pos.ofNatF:Nat→Nat→Pos
 | 0,_=>.h
 | f + 1,n=>match Nat.ble n 1 with
  | true=>.h
  | false=>match Nat.beq (Nat.mod n 2) 0 with
   | true=>.o (Pos.ofNatF f (Nat.div n 2))
   | false=>.i (Pos.ofNatF f (Nat.div n 2))
def Pos.ofNat (n:Nat) :Pos:=Pos.ofNatF 32 (Nat.succ n)
def Pos.beq:Pos→Pos→Bool
 | .h,.h=>true
 | .o p,.o q=>Pos.beq p q
 | .i p,.i q=>Pos.beq p q
 | _,_=>false
inductive PT (α:Type) where
 | l
 | n (a:PT α) (v:Option α) (b:PT α)
def PT.get {α:Type} :Pos→PT α→Option α
 | _,.l=>none
 | .h,.n _ v _=>v
 | .o p,.n a _ _=>PT.get p a
 | .i p,.n _ _ b=>PT.get p b
def PT.one {α:Type} :Pos→Option α→PT α
 | .h,x=>.n .l x .l
 | .o p,x=>.n (PT.one p x) none .l
 | .i p,x=>.n .l none (PT.one p x)
def PT.set {α:Type} :Pos→Option α→PT α→PT α
 | p,x,.l=>PT.one p x
 | .h,x,.n a _ b=>.n a x b
 | .o p,x,.n a v b=>.n (PT.set p x a) v b
 | .i p,x,.n a v b=>.n a v (PT.set p x b)
inductive AVal where
 | bool (b:Bool)
 | int (k:IntKind) (n:Int)
 | str (s:List Nat)
 | pnil
 | ptr (b:Pos) (o:Nat)
 | snil
 /-- sz = 0: the capacity is known; else the element's cells,and the capacity is a lower bound. -/
 | sl (b:Pos) (o len cap sz:Nat)
 | mnil
 | map (b:Pos)
 | fnil
 | func (f:FuncId) (first caps:List AVal)
 | yld (l:Pos)
 | inil
 | iface (t:TypeId) (v:AVal)
 | agg (l:List AVal)
 | tup (l:List AVal)
 /-- Nothing is known of it. -/
 | any
 deriving Inhabited
def AVal.undef:AVal:=.tup []
inductive AOpnd where
 | t (p:Pos)
 | c (v:AVal)
 deriving Inhabited
inductive AConv where
 | toInt (k:IntKind)
 | strBytes
 | bytesStr
 | same
 | mark
 deriving Inhabited
inductive ASlk where
 | str
 | sl (sz:Nat)
 | arr (n sz:Nat)
 deriving Inhabited
inductive EqK where
 | bool | int | str | ptr | sl | map | func | iface
 /-- Two ints in a row (a map's key alone). -/
 | pair
 deriving Inhabited
inductive EqKs where
 | one (k:EqK)
 | cells (l:List EqK)
 deriving Inhabited
inductive AOp where
 | move (x:AOpnd)
 | pick (c a b:AOpnd)
 | alloc (z:List AVal)
 | box (x:AOpnd)
 | build (z:List AVal) (ps:List (Nat × Nat × AOpnd))
 | buildSlice (z:List AVal) (len:Nat) (ps:List (Nat × Nat × AOpnd))
 | load1 (x:AOpnd)
 | loadN (n:Nat) (x:AOpnd)
 | store (n:Nat) (x y:AOpnd)
 | nilCheck (x:AOpnd)
 | bin (op:BinOp) (x y:AOpnd)
 | eq (neg:Bool) (k:EqKs) (x y:AOpnd)
 | un (op:UnOp) (x:AOpnd)
 | conv (c:AConv) (x:AOpnd)
 | fieldAddr (off:Nat) (x:AOpnd)
 | idxS (sz:Nat) (x i:AOpnd)
 | idxA (n sz:Nat) (x i:AOpnd)
 | field1 (off:Nat) (x:AOpnd)
 | fieldN (off n:Nat) (x:AOpnd)
 | idxStr (x i:AOpnd)
 | idxArr (n:Nat) (x i:AOpnd)
 | slice (k:ASlk) (x:AOpnd) (lo hi mx:Option AOpnd)
 | s2ap (n:Nat) (x:AOpnd)
 | mkI (t:TypeId) (x:AOpnd)
 | mkF (f:FuncId) (first caps:List AOpnd)
 | mkMap
 | mkSlice (z:List AVal) (bytes:Nat) (l c:AOpnd)
 | lookup (q:EqK) (z:AVal) (x k:AOpnd) (ok:Bool)
 | mapUpdate (q:EqK) (m k v:AOpnd)
 | extract (x:AOpnd) (i:Nat)
 | callF (f:FuncId) (args:List AOpnd)
 | callV (f:AOpnd) (args:List AOpnd)
 /-- k: of a string (0),a slice (1),a map (2). -/
 | len (k:Nat) (x:AOpnd)
 | append (sz bytes:Nat) (s x:AOpnd)
 | copy (sz:Nat) (d s:AOpnd)
 | mm (isMax:Bool) (xs:List AOpnd)
 | clear (z:List AVal) (x:AOpnd)
 | defer (f:AOpnd) (args:List AOpnd)
 | bad
 deriving Inhabited
structure AOper where
 dst:Option Pos
 op:AOp
 guard:Option (Pos × Bool)
 deriving Inhabited
structure ADraw where
 o:AOper
 cls:Nat
 idx:Nat
 bit:Nat
 need:Nat
 ahead:Nat
 deriving Inhabited
inductive ACode where
 | skip
 | region (ops:List AOper)
 | draw (ops:List ADraw)
 | seq (a b:ACode)
 | cond (c:AOpnd) (a b:ACode)
 | block (id:Nat) (b:ACode)
 | loop (b:ACode)
 | rangeFunc (f:AOpnd) (ps:List Pos) (assign body:ACode)
 | exit (id:Nat)
 | ret
 | scope (b:ACode)
 | label (l:Nat)
 | goto (l:Nat)
 | bad
 deriving Inhabited
def ACode.find:ACode→Nat→Option ACode
 | .seq a b,l=>match a.find l with
  | some r=>some (.seq r b)
  | none=>b.find l
 | .label l',l=>match Nat.beq l' l with
  | true=>some .skip
  | false=>none
 | _,_=>none
inductive AJump where
 | none
 | ret
 | exit (id:Nat)
 deriving Inhabited
structure ALoop where
 state:LoopState
 pending:AJump
 tmps:PT AVal
 params:List Pos
 assign:ACode
 body:ACode
 defers:Pos
inductive AObj where
 /-- op: behind an append (more cells may lie behind); ro: not to be written. -/
 | cells (l:List AVal) (op ro:Bool)
 | map (es:List (AVal × AVal))
 | loop (l:ALoop)
 | dfr (op:Bool)
 /-- A block of the model's own,that no operation of the machine looks into. -/
 | raw (o:Obj)
 /-- A map that is only read. -/
 | rmap (es:List (AVal × AVal))
structure AHeap where
 t:PT AObj
 nx:Pos
structure AFun where
 ntmps:Nat
 body:ACode
 results:List (Pos × Option (Nat))
abbrev ARes:=Option (AVal × AHeap)
structure Env where
 fns:PT AFun
 sums:PT (List AVal→AHeap→ARes)
 dsums:PT (List AVal→AHeap→Option AHeap)
inductive AExit where
 | normal | ret | exit (id:Nat) | goto (l:Nat)
 deriving Inhabited
inductive ADef where
 | mark (r:Pos)
 | fn (f:FuncId) (args:List AVal)
 deriving Inhabited
structure AAct where
 t:PT AVal
 ds:List ADef
def lget:List AVal→Nat→Option AVal
 | [],_=>none
 | a :: _,0=>some a
 | _ :: l,n + 1=>lget l n
def lset:List AVal→Nat→AVal→Option (List AVal)
 | [],_,_=>none
 | _ :: l,0,v=>some (v :: l)
 | a :: l,n + 1,v=>match lset l n v with
  | some l'=>some (a :: l')
  | none=>none
def ldrop:Nat→List AVal→Option (List AVal)
 | 0,l=>some l
 | _ + 1,[]=>none
 | n + 1,_ :: l=>ldrop n l
def ltake:Nat→List AVal→Option (List AVal)
 | 0,_=>some []
 | _ + 1,[]=>none
 | n + 1,a :: l=>match ltake n l with
  | some l'=>some (a :: l')
  | none=>none
def lsub (l:List AVal) (o n:Nat) :Option (List AVal) :=
 match ldrop o l with
 | some l'=>ltake n l'
 | none=>none
def lover:List AVal→List AVal→Option (List AVal)
 | [],l=>some l
 | _ :: _,[]=>none
 | v :: vs,_ :: l=>match lover vs l with
  | some l'=>some (v :: l')
  | none=>none
def lput:List AVal→Nat→List AVal→Option (List AVal)
 | l,0,vs=>lover vs l
 | [],_ + 1,_=>none
 | a :: l,n + 1,vs=>match lput l n vs with
  | some l'=>some (a :: l')
  | none=>none
def AHeap.new (h:AHeap) (x:AObj) :Pos × AHeap:=(h.nx,⟨PT.set h.nx (some x) h.t,h.nx.succ⟩)
def AHeap.upd (h:AHeap) (p:Pos) (x:AObj) :AHeap:=⟨PT.set p (some x) h.t,h.nx⟩
def AHeap.kill (h:AHeap) (p:Pos) :AHeap:=⟨PT.set p none h.t,h.nx⟩
def vcells:AVal→List AVal
 | .agg l=>l
 | v=>[v]
def vcellsO:AVal→Option (List AVal)
 | .agg l=>some l
 | .any=>none
 | v=>some [v]
def isScal:AVal→Bool
 | .agg _ | .tup _ | .any=>false
 | _=>true
def allScal:List AVal→Bool
 | []=>true
 | v :: l=>match isScal v with
  | true=>allScal l
  | false=>false
def hload (h:AHeap) (b:Pos) (o:Nat) :Option AVal :=
 match PT.get b h.t with
 | some (.cells l _ _)=>lget l o
 | _=>none
def hloadN (h:AHeap) (b:Pos) (o n:Nat) :Option (List AVal) :=
 match PT.get b h.t with
 | some (.cells l _ _)=>lsub l o n
 | _=>none
def hstoreN (h:AHeap) (b:Pos) (o:Nat) (vs:List AVal) :Option AHeap :=
 match PT.get b h.t with
 | some (.cells l op false)=>match allScal vs with
  | true=>match lput l o vs with
   | some l'=>some (h.upd b (.cells l' op false))
   | none=>none
  | false=>none
 | _=>none
def wrapI (k:IntKind) (n:Int) :Int :=
 match n with
 | .ofNat m=>match k with
  | .i64=>match Nat.ble m 9223372036854775807 with
   | true=>.ofNat m
   | false=>IntKind.wrap .i64 (.ofNat m)
  | .u8=>.ofNat (Nat.mod m 256)
  | .u32=>.ofNat (Nat.mod m 4294967296)
  | .u64=>.ofNat (Nat.mod m 18446744073709551616)
  | k=>k.wrap (.ofNat m)
 | n=>k.wrap n
def bitsN (k:IntKind) :Nat:=match k with
 | .i8 | .u8=>256
 | .i16 | .u16=>65536
 | .i32 | .u32=>4294967296
 | .i64 | .u64=>18446744073709551616
def bitsI (k:IntKind) (f:Nat→Nat→Nat) (g:BitVec k.bits→BitVec k.bits→BitVec k.bits) (a b:Int) :Int :=
 match a,b with
 | .ofNat a,.ofNat b=>wrapI k (.ofNat (Nat.mod (f a b) (bitsN k)))
 | a,b=>wrapI k (Int.ofNat (g (BitVec.ofInt k.bits a) (BitVec.ofInt k.bits b)).toNat)
def allOnes (k:IntKind) :Int:=match k.signed with
 | true=>.negSucc 0
 | false=>.ofNat (Nat.pred (bitsN k))
def mulI:Int→Int→Int
 | .ofNat a,.ofNat b=>.ofNat (Nat.mul a b)
 | a,b=>Int.mul a b
def quoI:Int→Int→Int
 | .ofNat a,.ofNat b=>.ofNat (Nat.div a b)
 | a,b=>Int.tdiv a b
def remI:Int→Int→Int
 | .ofNat a,.ofNat b=>.ofNat (Nat.mod a b)
 | a,b=>Int.tmod a b
def isZero:Int→Bool
 | .ofNat 0=>true
 | _=>false
def ltI:Int→Int→Bool
 | .ofNat a,.ofNat b=>Nat.blt a b
 | .negSucc _,.ofNat _=>true
 | .ofNat _,.negSucc _=>false
 | .negSucc a,.negSucc b=>Nat.blt b a
def eqI:Int→Int→Bool
 | .ofNat a,.ofNat b=>Nat.beq a b
 | .negSucc a,.negSucc b=>Nat.beq a b
 | _,_=>false
def addI:Int→Int→Int
 | .ofNat a,.ofNat b=>.ofNat (Nat.add a b)
 | a,b=>Int.add a b
def subI:Int→Int→Int
 | .ofNat a,.ofNat b=>match Nat.ble b a with
  | true=>.ofNat (Nat.sub a b)
  | false=>.negSucc (Nat.pred (Nat.sub b a))
 | a,b=>Int.sub a b
def forceI {R:Type} (n:Int) (k:Int→R) :R :=
 match n with
 | .ofNat 0=>k (.ofNat 0)
 | .ofNat (m + 1)=>k (.ofNat (Nat.succ m))
 | .negSucc 0=>k (.negSucc 0)
 | .negSucc (m + 1)=>k (.negSucc (Nat.succ m))
def kbeq:IntKind→IntKind→Bool
 | .i64,.i64 | .u8,.u8 | .u32,.u32 | .i32,.i32 | .u64,.u64 | .u16,.u16 | .i8,.i8 | .i16,.i16=>true
 | _,_=>false
def intBin (op:BinOp) (k:IntKind) (a b:Int) :Option AVal :=
 match op with
 | .add=>some (.int k (wrapI k (addI a b)))
 | .sub=>some (.int k (wrapI k (subI a b)))
 | .mul=>some (.int k (wrapI k (mulI a b)))
 | .quo=>match isZero b with
  | true=>none
  | false=>some (.int k (wrapI k (quoI a b)))
 | .rem=>match isZero b with
  | true=>none
  | false=>some (.int k (remI a b))
 | .and=>some (.int k (bitsI k Nat.land (· &&& ·) a b))
 | .or=>some (.int k (bitsI k Nat.lor (· ||| ·) a b))
 | .xor=>some (.int k (bitsI k Nat.xor (· ^^^ ·) a b))
 | .andNot=>some (.int k (wrapI k (Int.ofNat ((BitVec.ofInt k.bits a &&& ~~~BitVec.ofInt k.bits b).toNat))))
 | .eql=>some (.bool (eqI a b))
 | .neq=>some (.bool (!(eqI a b)))
 | .lss=>some (.bool (ltI a b))
 | .leq=>some (.bool (!(ltI b a)))
 | .gtr=>some (.bool (ltI b a))
 | .geq=>some (.bool (!(ltI a b)))
 | _=>none
def shiftOp (op:BinOp) (k:IntKind) (x y:Int) :Option AVal :=
 match y with
 | .negSucc _=>none
 | .ofNat m =>
  let n:=Nat.min m k.bits
  match op with
  | .shl=>some (.int k (wrapI k (mulI x (.ofNat (Nat.pow 2 n)))))
  | .shr=>match x with
   | .ofNat m=>some (.int k (.ofNat (Nat.div m (Nat.pow 2 n))))
   | x=>some (.int k (x.fdiv (2 ^ n)))
  | _=>none
def strEq:List Nat→List Nat→Bool
 | [],[]=>true
 | a :: l,b :: m=>match Nat.beq a b with
  | true=>strEq l m
  | false=>false
 | _,_=>false
def strLt:List Nat→List Nat→Bool
 | _,[]=>false
 | [],_ :: _=>true
 | a :: x,b :: y=>match Nat.blt a b with
  | true=>true
  | false=>match Nat.beq a b with
   | true=>strLt x y
   | false=>false
def strBin (op:BinOp) (a b:List Nat) :Option AVal :=
 match op with
 | .add=>match Nat.ble (Nat.add a.length b.length) 9223372036854775807 with
  | true=>some (.str (a ++ b))
  | false=>none
 | .eql=>some (.bool (strEq a b))
 | .neq=>some (.bool (!(strEq a b)))
 | .lss=>some (.bool (strLt a b))
 | .leq=>some (.bool (strLt a b || strEq a b))
 | .gtr=>some (.bool !(strLt a b || strEq a b))
 | .geq=>some (.bool !(strLt a b))
 | _=>none
def binOpA (op:BinOp) (x y:AVal) :Option AVal :=
 match op,x,y with
 | .shl,.int k a,.int _ b=>shiftOp .shl k a b
 | .shr,.int k a,.int _ b=>shiftOp .shr k a b
 | op,.int k a,.int k' b=>match kbeq k k' with
  | true=>intBin op k a b
  | false=>none
 | op,.str a,.str b=>strBin op a b
 | _,_,_=>none
def live (h:AHeap) (b:Pos) :Bool :=
 match PT.get b h.t with
 | some (.cells _ false false)=>true
 | _=>false
def eqS (h:AHeap) (q:EqK) (x y:AVal) :Option Bool :=
 match q with
 | .bool=>match x,y with
  | .bool a,.bool b=>some (a == b)
  | _,_=>none
 | .int=>match x,y with
  | .int k a,.int k' b=>match kbeq k k' with
   | true=>some (eqI a b)
   | false=>none
  | _,_=>none
 | .str=>match x,y with
  | .str a,.str b=>some (strEq a b)
  | _,_=>none
 | .ptr=>match x,y with
  | .pnil,.pnil=>some true
  | .pnil,.ptr _ _=>some false
  | .ptr _ _,.pnil=>some false
  | .ptr b o,.ptr b' o'=>match Pos.beq b b' with
   | true=>some (Nat.beq o o')
   | false=>match live h b,live h b' with
    | true,true=>some false
    | _,_=>none
  | _,_=>none
 | .sl=>match x,y with
  | .snil,.snil=>some true
  | .snil,.sl ..=>some false
  | .sl ..,.snil=>some false
  | _,_=>none
 | .map=>match x,y with
  | .mnil,.mnil=>some true
  | .mnil,.map _=>some false
  | .map _,.mnil=>some false
  | _,_=>none
 | .func=>match x,y with
  | .fnil,.fnil=>some true
  | .fnil,.func ..=>some false
  | .func ..,.fnil=>some false
  | _,_=>none
 | .iface=>match x,y with
  | .inil,.inil=>some true
  | .inil,.iface ..=>some false
  | .iface ..,.inil=>some false
  | _,_=>none
 | .pair=>match x,y with
  | .agg [.int k a,.int q b],.agg [.int k' a',.int q' b']=>match kbeq k k',kbeq q q' with
   | true,true=>some (eqI a a' && eqI b b')
   | _,_=>none
  | _,_=>none
def eqL (h:AHeap) :List EqK→List AVal→List AVal→Option Bool
 | [],[],[]=>some true
 | q :: qs,a :: l,b :: m=>match eqS h q a b with
  | some true=>eqL h qs l m
  | some false=>some false
  | none=>none
 | _,_,_=>none
def eqV (h:AHeap) (k:EqKs) (x y:AVal) :Option Bool :=
 match k with
 | .one q=>eqS h q x y
 | .cells qs=>match x,y with
  | .agg l,.agg m=>eqL h qs l m
  | _,_=>none
mutual
def same:AVal→AVal→Bool
 | .bool a,.bool b=>a == b
 | .int k a,.int k' b=>match kbeq k k' with
  | true=>eqI a b
  | false=>false
 | .str a,.str b=>strEq a b
 | .pnil,.pnil | .snil,.snil | .mnil,.mnil | .fnil,.fnil | .inil,.inil=>true
 | .ptr b o,.ptr b' o'=>Pos.beq b b' && Nat.beq o o'
 | .sl b o l c s,.sl b' o' l' c' s'=>Pos.beq b b' && Nat.beq o o' && Nat.beq l l' && Nat.beq c c' && Nat.beq s s'
 | .map b,.map b'=>Pos.beq b b'
 | .func f a b,.func g c d=>Nat.beq f g && sameL a c && sameL b d
 | .yld l,.yld m=>Pos.beq l m
 | .iface t v,.iface u w=>Nat.beq t u && same v w
 | .agg l,.agg m=>sameL l m
 | .tup l,.tup m=>sameL l m
 | _,_=>false
def sameL:List AVal→List AVal→Bool
 | [],[]=>true
 | a :: l,b :: m=>same a b && sameL l m
 | _,_=>false
end
def tget (t:PT AVal) (p:Pos) :AVal :=
 match PT.get p t with
 | some v=>v
 | none=>.undef
def AOpnd.ev (t:PT AVal) :AOpnd→AVal
 | .t p=>tget t p
 | .c v=>v
def evs (t:PT AVal) :List AOpnd→List AVal
 | []=>[]
 | x :: l=>x.ev t :: evs t l
def natOf:AVal→Option Nat
 | .int _ (.ofNat n)=>some n
 | _=>none
def boundOf (t:PT AVal) (x:Option AOpnd) (dflt most:Nat) :Option Nat :=
 match x with
 | none=>some dflt
 | some o=>match natOf (o.ev t) with
  | some n=>match Nat.ble n most with
   | true=>some n
   | false=>none
  | none=>none
def fillA (z:List AVal) (t:PT AVal) :List (Nat × Nat × AOpnd)→Option (List AVal)
 | []=>some z
 | (off,size,x) :: ps=>match vcellsO (x.ev t) with
  | some vs=>match Nat.beq vs.length size with
   | true=>match lput z off vs with
    | some z'=>fillA z' t ps
    | none=>none
   | false=>none
  | none=>none
def bytesOf:List AVal→Option (List Nat)
 | []=>some []
 | .int .u8 (.ofNat n) :: l=>match bytesOf l with
  | some s=>some (n :: s)
  | none=>none
 | _=>none
def cellsOfBytes:List Nat→List AVal
 | []=>[]
 | n :: l=>.int .u8 (.ofNat n) :: cellsOfBytes l
def subStr (s:List Nat) (l h:Nat) :List Nat:=(s.drop l).take (Nat.sub h l)
def sliceA (t:PT AVal) (k:ASlk) (x:AVal) (lo hi mx:Option AOpnd) :Option AVal :=
 match k,x with
 | .str,.str s=>match mx with
  | none=>match boundOf t hi s.length s.length with
   | some h=>match boundOf t lo 0 h with
    | some l=>some (.str (subStr s l h))
    | none=>none
   | none=>none
  | some _=>none
 | .sl _,.snil=>match boundOf t mx 0 0 with
  | some _=>match boundOf t hi 0 0 with
   | some _=>match boundOf t lo 0 0 with
    | some _=>some .snil
    | none=>none
   | none=>none
  | none=>none
 | .sl sz,.sl b o len cap 0=>match boundOf t mx cap cap with
  | some m=>match boundOf t hi len m with
   | some h=>match boundOf t lo 0 h with
    | some l=>match Nat.beq m l with
     | true=>some (.sl b o (Nat.sub h l) (Nat.sub m l) 0)
     | false=>some (.sl b (Nat.add o (Nat.mul l sz)) (Nat.sub h l) (Nat.sub m l) 0)
    | none=>none
   | none=>none
  | none=>none
 | .sl sz,.sl b o len cap (k + 1)=>match Nat.beq (Nat.succ k) sz with
  | true=>match boundOf t mx cap cap with
   | some m=>match boundOf t hi len m with
    | some h=>match boundOf t lo 0 h with
     | some l=>match mx with
      | none=>some (.sl b (Nat.add o (Nat.mul l sz)) (Nat.sub h l) (Nat.sub m l) sz)
      | some _=>match Nat.beq m l with
       | true=>some (.sl b o (Nat.sub h l) (Nat.sub m l) 0)
       | false=>some (.sl b (Nat.add o (Nat.mul l sz)) (Nat.sub h l) (Nat.sub m l) 0)
     | none=>none
    | none=>none
   | none=>none
  | false=>none
 | .arr n sz,.ptr b o=>match boundOf t mx n n with
  | some m=>match boundOf t hi n m with
   | some h=>match boundOf t lo 0 h with
    | some l=>match Nat.beq m l with
     | true=>some (.sl b o (Nat.sub h l) (Nat.sub m l) 0)
     | false=>some (.sl b (Nat.add o (Nat.mul l sz)) (Nat.sub h l) (Nat.sub m l) 0)
    | none=>none
   | none=>none
  | none=>none
 | _,_=>none
def mmA (isMax:Bool) :AVal→List AVal→Option AVal
 | x,[]=>some x
 | .int k a,.int k' b :: l=>match kbeq k k' with
  | true=>match isMax with
   | true=>mmA isMax (.int k (match ltI a b with | true=>b | false=>a)) l
   | false=>mmA isMax (.int k (match ltI b a with | true=>b | false=>a)) l
  | false=>none
 | _,_=>none
def entries:Option AObj→Option (List (AVal × AVal))
 | none=>none
 | some o=>match o with
  | .cells _ _ _=>none
  | .map es=>some es
  | .loop _=>none
  | .dfr _=>none
  | .raw _=>none
  | .rmap es=>some es
@[simp] theorem entries_map (es:List (AVal × AVal)) :entries (some (.map es)) = some es:=rfl
@[simp] theorem entries_rmap (es:List (AVal × AVal)) :entries (some (.rmap es)) = some es:=rfl
def keyFit (q:EqK) (k:AVal) :Bool :=
 match q with
 | .pair=>match k with
  | .agg [.int _ _,.int _ _]=>true
  | _=>false
 | _=>true
def findKey (h:AHeap) (q:EqK) (k:AVal) :List (AVal × AVal)→Option (Option AVal)
 | []=>some none
 | (k',v) :: es=>match eqS h q k k' with
  | some true=>match findKey h q k es with
   | some none=>some (some v)
   | _=>none
  | some false=>findKey h q k es
  | none=>none
def putKey (h:AHeap) (q:EqK) (k v:AVal) :List (AVal × AVal)→Option (List (AVal × AVal))
 | []=>some [(k,v)]
 | (k',v') :: es=>match eqS h q k k' with
  | some true=>match findKey h q k es with
   | some none=>some ((k,v) :: es)
   | _=>none
  | some false=>match putKey h q k v es with
   | some es'=>some ((k',v') :: es')
   | none=>none
  | none=>none
def dropKey (h:AHeap) (q:EqK) (k:AVal) :List (AVal × AVal)→Option (List (AVal × AVal))
 | []=>some []
 | (k',v') :: es=>match eqS h q k k' with
  | some true=>match findKey h q k es with
   | some none=>some es
   | _=>none
  | some false=>match dropKey h q k es with
   | some es'=>some ((k',v') :: es')
   | none=>none
  | none=>none
def isGone:AOpnd→Bool
 | .c .any=>true
 | _=>false
def turnKey (h:AHeap) (q:EqK) (k:AVal) (v:AOpnd) (t:PT AVal) (es:List (AVal × AVal)) :Option (List (AVal × AVal)) :=
 match isGone v with
 | true=>dropKey h q k es
 | false=>putKey h q k (v.ev t) es
def quiet (t:PT AVal) (h:AHeap) :AOp→Option AVal
 | .move x=>some (x.ev t)
 | .pick c a b=>match c.ev t with
  | .bool true=>some (a.ev t)
  | .bool false=>some (b.ev t)
  | _=>none
 | .build z ps=>match fillA z t ps with
  | some l=>some (.agg l)
  | none=>none
 | .load1 x=>match x.ev t with
  | .ptr b o=>hload h b o
  | _=>none
 | .loadN n x=>match x.ev t with
  | .ptr b o=>match hloadN h b o n with
   | some l=>some (.agg l)
   | none=>none
  | _=>none
 | .nilCheck x=>match x.ev t with
  | .ptr b o=>some (.ptr b o)
  | .func f a b=>some (.func f a b)
  | .yld l=>some (.yld l)
  | _=>none
 | .bin op x y=>binOpA op (x.ev t) (y.ev t)
 | .eq neg k x y=>match eqV h k (x.ev t) (y.ev t) with
  | some b=>some (.bool (match neg with | true=>!b | false=>b))
  | none=>none
 | .un op x=>match op,x.ev t with
  | .not,.bool b=>some (.bool !b)
  | .neg,.int k n=>some (.int k (wrapI k (subI 0 n)))
  | .xor,.int k n=>intBin .xor k (allOnes k) n
  | _,_=>none
 | .conv c x=>match c with
  | .toInt k=>match x.ev t with
   | .int _ n=>some (.int k (wrapI k n))
   | _=>none
  | .bytesStr=>match x.ev t with
   | .snil=>some (.str [])
   | .sl b o len _ _=>match hloadN h b o len with
    | some l=>match bytesOf l with
     | some s=>match s.all fun n=>Nat.blt n 256 with
      | true=>some (.str s)
      | false=>none
     | none=>none
    | none=>none
   | _=>none
  | .same=>match x.ev t with
   | .str s=>some (.str s)
   | _=>none
  | _=>none
 | .fieldAddr off x=>match x.ev t with
  | .ptr b o=>some (.ptr b (Nat.add o off))
  | _=>none
 | .idxS sz x i=>match x.ev t,natOf (i.ev t) with
  | .sl b o len _ _,some n=>match Nat.blt n len with
   | true=>some (.ptr b (Nat.add o (Nat.mul n sz)))
   | false=>none
  | _,_=>none
 | .idxA len sz x i=>match x.ev t,natOf (i.ev t) with
  | .ptr b o,some n=>match Nat.blt n len with
   | true=>some (.ptr b (Nat.add o (Nat.mul n sz)))
   | false=>none
  | _,_=>none
 | .field1 off x=>match x.ev t with
  | .agg l=>lget l off
  | _=>none
 | .fieldN off n x=>match x.ev t with
  | .agg l=>match lsub l off n with
   | some l'=>some (.agg l')
   | none=>none
  | _=>none
 | .idxStr x i=>match x.ev t,natOf (i.ev t) with
  | .str s,some n=>match s.drop n with
   | c :: _=>some (.int .u8 (.ofNat c))
   | []=>none
  | _,_=>none
 | .idxArr len x i=>match x.ev t,natOf (i.ev t) with
  | .agg l,some n=>match Nat.blt n len with
   | true=>lget l n
   | false=>none
  | _,_=>none
 | .slice k x lo hi mx=>sliceA t k (x.ev t) lo hi mx
 | .s2ap n x=>match x.ev t with
  | .sl b o len _ _=>match Nat.ble n len with
   | true=>some (.ptr b o)
   | false=>none
  | _=>none
 | .mkI ty x=>some (.iface ty (x.ev t))
 | .mkF f first caps=>some (.func f (evs t first) (evs t caps))
 | .lookup q z x k ok =>
  match keyFit q (k.ev t) with
  | false=>none
  | true=>match (match x.ev t with
   | .mnil=>some none
   | .map b=>match entries (PT.get b h.t) with
    | some es=>findKey h q (k.ev t) es
    | _=>none
   | _=>none) with
  | some (some v)=>some (match ok with | true=>.tup [v,.bool true] | false=>v)
  | some none=>some (match ok with | true=>.tup [z,.bool false] | false=>z)
  | none=>none
 | .extract x i=>match x.ev t with
  | .tup l=>lget l i
  | _=>none
 | .len k x=>match k with
  | 0=>match x.ev t with
   | .str s=>some (.int .i64 (.ofNat s.length))
   | _=>none
  | 1=>match x.ev t with
   | .snil=>some (.int .i64 (.ofNat 0))
   | .sl _ _ n _ _=>some (.int .i64 (.ofNat n))
   | _=>none
  | _=>match x.ev t with
   | .mnil=>some (.int .i64 (.ofNat 0))
   | .map b=>match entries (PT.get b h.t) with
    | some es=>some (.int .i64 (.ofNat es.length))
    | _=>none
   | _=>none
 | .mm isMax xs=>match evs t xs with
  | x :: l=>mmA isMax x l
  | []=>none
 | _=>none
def repl (z:List AVal) :Nat→List AVal
 | 0=>[]
 | n + 1=>z ++ repl z n
def srcCells (h:AHeap) (sz:Nat) (x:AVal) :Option (Nat × List AVal) :=
 match x with
 | .snil=>some (0,[])
 | .str s=>match Nat.beq sz 1 with
  | true=>some (s.length,cellsOfBytes s)
  | false=>none
 | .sl b o len _ _=>match hloadN h b o (Nat.mul len sz) with
  | some l=>some (len,l)
  | none=>none
 | _=>none
def firstN (h:AHeap) (sz n:Nat) (x:AVal) :Option (List AVal) :=
 match x with
 | .snil=>some []
 | .str s=>some (cellsOfBytes (s.take n))
 | .sl b o _ _ _=>hloadN h b o (Nat.mul n sz)
 | _=>none
def lenA:AVal→Option Nat
 | .snil=>some 0
 | .str s=>some s.length
 | .sl _ _ n _ _=>some n
 | _=>none
def appendA (h:AHeap) (sz bytes:Nat) (s x:AVal) :ARes :=
 match srcCells h sz x with
 | some (n,new) =>
  match s with
  | .snil=>match n with
   | 0=>some (.snil,h)
   | n + 1=>match Nat.ble (Nat.mul (Nat.succ n) bytes) 281474976710656 with
    | true=>match h.new (.cells new true false) with
     | (b,h')=>some (.sl b 0 (Nat.succ n) (Nat.succ n) sz,h')
    | false=>none
  | .sl b o len cap k =>
   match Nat.ble (Nat.add len n) cap with
   | true=>match hstoreN h b (Nat.add o (Nat.mul len sz)) new with
    | some h'=>some (.sl b o (Nat.add len n) cap k,h')
    | none=>none
   | false=>match hloadN h b o (Nat.mul len sz),Nat.ble (Nat.mul (Nat.mul (Nat.add len n) 2) bytes) 281474976710656 with
    | some old,true=>match k with
     | 0=>match h.new (.cells (old ++ new) true false) with
      | (b',h')=>some (.sl b' 0 (Nat.add len n) (Nat.add len n) sz,h')
     | k' + 1=>match PT.get b h.t,Nat.beq (Nat.succ k') sz,allScal new with
      | some (.cells _ _ false),true,true=>match (h.kill b).new (.cells (old ++ new) true false) with
       | (b',h')=>some (.sl b' 0 (Nat.add len n) (Nat.add len n) sz,h')
      | _,_,_=>none
    | _,_=>none
  | _=>none
 | none=>none
def write (t:PT AVal) (h:AHeap) :AOp→ARes
 | .alloc z=>match h.new (.cells z false false) with
  | (b,h')=>some (.ptr b 0,h')
 | .box x=>match vcellsO (x.ev t) with
  | some vs=>match h.new (.cells vs false false) with
   | (b,h')=>some (.ptr b 0,h')
  | none=>none
 | .buildSlice z len ps=>match fillA z t ps with
  | some l=>match h.new (.cells l false false) with
   | (b,h')=>some (.sl b 0 len len 0,h')
  | none=>none
 | .store n x y=>match x.ev t with
  | .ptr b o=>match vcellsO (y.ev t) with
   | some vs=>match Nat.beq vs.length n with
    | true=>match hstoreN h b o vs with
     | some h'=>some (.undef,h')
     | none=>none
    | false=>none
   | none=>none
  | _=>none
 | .conv .strBytes x=>match x.ev t with
  | .str s=>match Nat.ble s.length 281474976710656 with
   | true=>match h.new (.cells (cellsOfBytes s) true false) with
    | (b,h')=>some (.sl b 0 s.length s.length 1,h')
   | false=>none
  | _=>none
 | .conv .mark x=>match x.ev t with
  | .snil=>none
  | .sl b o len cap k=>match PT.get b h.t,Nat.blt 0 cap with
   | some (.cells l _ false),true=>some (.sl b o len cap k,h.upd b (.cells l true false))
   | _,_=>none
  | _=>none
 | .clear z x=>match x.ev t with
  | .snil=>some (.undef,h)
  | .sl b o len _ _=>match hstoreN h b o (repl z len) with
   | some h'=>some (.undef,h')
   | none=>none
  | _=>none
 | .mkMap=>match h.new (.map []) with
  | (b,h')=>some (.map b,h')
 | .mkSlice z bytes l c=>match natOf (l.ev t),natOf (c.ev t) with
  | some l,some c=>match Nat.ble l c,Nat.ble (Nat.mul c bytes) 140737488355328,Nat.ble c 140737488355328 with
   | true,true,true=>match h.new (.cells (repl z c) false false) with
    | (b,h')=>some (.sl b 0 l c 0,h')
   | _,_,_=>none
  | _,_=>none
 | .mapUpdate q m k v=>match m.ev t with
  | .map b=>match PT.get b h.t with
   | some (.map es)=>match keyFit q (k.ev t) with
    | true=>match turnKey h q (k.ev t) v t es with
     | some es'=>some (.undef,h.upd b (.map es'))
     | none=>none
    | false=>none
   | _=>none
  | _=>none
 | .append sz bytes s x=>appendA h sz bytes (s.ev t) (x.ev t)
 | .copy sz d s=>match d.ev t,lenA (s.ev t) with
  | .snil,some _=>some (.int .i64 (.ofNat 0),h)
  | .sl b o len _ _,some n =>
   match firstN h sz (Nat.min n len) (s.ev t) with
   | some l=>match hstoreN h b o l with
    | some h'=>some (.int .i64 (.ofNat (Nat.min n len)),h')
    | none=>none
   | none=>none
  | _,_=>none
 | op=>match quiet t h op with
  | some v=>some (v,h)
  | none=>none
def tput (t:PT AVal) (d:Option Pos) (v:AVal) :PT AVal :=
 match d with
 | some p=>PT.set p (some v) t
 | none=>t
def args0:List AVal→Nat→Nat→PT AVal→Option (PT AVal)
 | [],_,_,t=>some t
 | _ :: _,_,0,_=>none
 | v :: l,i,n + 1,t=>args0 l (i + 1) n (PT.set (Pos.ofNat i) (some v) t)
def enterA (rec:ACode→Option Pos→AAct→AHeap→Option (AExit × AAct × AHeap)) (fi:AFun) (args:List AVal) (h:AHeap) :Option (AExit × AAct × AHeap) :=
 match args0 args 0 fi.ntmps .l with
 | some t=>rec fi.body none ⟨t,[]⟩ h
 | none=>none
def setPs:List Pos→List AVal→PT AVal→Option (PT AVal)
 | [],[],t=>some t
 | p :: ps,v :: vs,t=>setPs ps vs (PT.set p (some v) t)
 | _,_,_=>none
abbrev Rec:=ACode→Option Pos→AAct→AHeap→Option (AExit × AAct × AHeap)
def resultA (t:PT AVal) (h:AHeap) :List (Pos × Option Nat)→Option (List AVal)
 | []=>some []
 | (p,none) :: rs=>match resultA t h rs with
  | some l=>some (tget t p :: l)
  | none=>none
 | (p,some 0) :: rs=>match tget t p with
  | .ptr b o=>match hload h b o,resultA t h rs with
   | some v,some l=>some (v :: l)
   | _,_=>none
  | _=>none
 | (p,some n) :: rs=>match tget t p with
  | .ptr b o=>match hloadN h b o n,resultA t h rs with
   | some v,some l=>some (.agg v :: l)
   | _,_=>none
  | _=>none
def takeDs (E:Env) (rec:Rec) :List ADef→AHeap→Option AHeap
 | [],h=>some h
 | .mark p :: ps,h=>match PT.get p h.t with
  | some (.dfr true)=>takeDs E rec ps (h.kill p)
  | _=>none
 | .fn f args :: ps,h=>match Nat.blt f 2147483648 with
  | true=>match PT.get (Pos.ofNat f) E.dsums with
   | some s=>match s args h with
    | some h1=>takeDs E rec ps h1
    | none=>none
   | none=>match PT.get (Pos.ofNat f) E.fns with
    | some fi=>match enterA rec fi args h with
     | some (.exit _,_,_)=>none
     | some (.goto _,_,_)=>none
     | some (_,⟨t,[]⟩,h1)=>match resultA t h1 fi.results with
      | some _=>takeDs E rec ps h1
      | none=>none
     | _=>none
    | none=>none
  | false=>none
def callF (E:Env) (rec:Rec) (f:FuncId) (args:List AVal) (h:AHeap) :ARes :=
 match Nat.blt f 2147483648,PT.get (Pos.ofNat f) E.fns with
 | true,some fi =>
  match enterA rec fi args h with
  | some (.exit _,_,_)=>none
  | some (.goto _,_,_)=>none
  | some (_,a,h1)=>match takeDs E rec a.ds h1 with
   | some h2=>match resultA a.t h2 fi.results with
    | some [v]=>some (v,h2)
    | some l=>some (.tup l,h2)
    | none=>none
   | none=>none
  | none=>none
 | _,_=>none
def callA (E:Env) (rec:Rec) (f:FuncId) (args:List AVal) (h:AHeap) :ARes :=
 match Nat.blt f 2147483648,PT.get (Pos.ofNat f) E.sums with
 | true,some s=>s args h
 | _,_=>callF E rec f args h
def roundA (rec:Rec) (l:Pos) (args:List AVal) (h:AHeap) :ARes :=
 match PT.get l h.t with
 | some (.loop r)=>match setPs r.params args r.tmps with
  | some t=>match rec r.assign (some l) ⟨t,[]⟩ h with
   | some (.normal,a1,h1)=>match PT.get l h1.t with
    | some (.loop r1)=>match r1.state with
     | .ready=>match rec r.body (some l) a1 (h1.upd l (.loop { r1 with state:=.busy })) with
      | some (e,⟨_,[]⟩,h2)=>match PT.get l h2.t with
       | some (.loop r2)=>match e with
        | .normal=>some (.bool true,h2.upd l (.loop { r2 with state:=.ready,pending:=.none }))
        | .ret=>some (.bool false,h2.upd l (.loop { r2 with state:=.done,pending:=.ret }))
        | .exit id=>some (.bool false,h2.upd l (.loop { r2 with state:=.done,pending:=.exit id }))
        | .goto _=>none
       | _=>none
      | _=>none
     | _=>none
    | _=>none
   | _=>none
  | none=>none
 | _=>none
def callVal (E:Env) (rec:Rec) (f:AVal) (args:List AVal) (h:AHeap) :ARes :=
 match f with
 | .func f first caps=>callA E rec f (first ++ (args ++ caps)) h
 | .yld l=>roundA rec l args h
 | _=>none
def execA (E:Env) (rec:Rec) (t:PT AVal) (h:AHeap) :AOp→ARes
 | .callF f args=>callA E rec f (evs t args) h
 | .callV f args=>callVal E rec (f.ev t) (evs t args) h
 | op=>write t h op
def wantedA (t:PT AVal) :Option (Pos × Bool)→Option Bool
 | none=>some true
 | some (p,want)=>match PT.get p t with
  | some (.bool b)=>some (b == want)
  | some (.tup [])=>some false
  | none=>some false
  | _=>none
def forceV {R:Type} (v:AVal) (k:AVal→R) :R :=
 match v with
 | .int q n=>forceI n fun m=>k (.int q m)
 | .bool true=>k (.bool true)
 | .bool false=>k (.bool false)
 | v=>k v
def opsA (E:Env) (rec:Rec) (ds:List ADef) :List AOper→PT AVal→AHeap→Option (AExit × AAct × AHeap)
 | [],t,h=>some (.normal,⟨t,ds⟩,h)
 | o :: l,t,h=>match wantedA t o.guard with
  | some true=>match o.op with
   | .defer f args=>match f.ev t with
    | .func g first caps=>opsA E rec (.fn g (first ++ (evs t args ++ caps)) :: ds) l (tput t o.dst .undef) h
    | _=>none
   | op=>match execA E rec t h op with
    | some (v,h')=>forceV v fun v=>opsA E rec ds l (tput t o.dst v) h'
    | none=>none
  | some false=>opsA E rec ds l (tput t o.dst .undef) h
  | none=>none
structure Seen where
 t:PT AVal
 op:AOp
 v:AVal
 bit:Nat
def again (ahead:Nat) (h:AHeap) :List Seen→Option (List Seen)
 | []=>some []
 | s :: l=>match Nat.beq (Nat.land ahead s.bit) 0 with
  | true=>match quiet s.t h s.op with
   | some v=>match same v s.v with
    | true=>match again ahead h l with
     | some l'=>some (s :: l')
     | none=>none
    | false=>none
   | none=>none
  | false=>again ahead h l
def drawA (E:Env) (rec:Rec) (ds:List ADef) :List ADraw→PT AVal→AHeap→List Seen→Option (AExit × AAct × AHeap)
 | [],t,h,_=>some (.normal,⟨t,ds⟩,h)
 | d :: l,t,h,seen=>match wantedA t d.o.guard with
  | some true=>match d.cls with
   | 0=>match quiet t h d.o.op with
    | some v=>forceV v fun v=>drawA E rec ds l (tput t d.o.dst v) h (⟨t,d.o.op,v,d.bit⟩ :: seen)
    | none=>none
   | 1=>match write t h d.o.op with
    | some (v,h')=>drawA E rec ds l (tput t d.o.dst v) h' seen
    | none=>none
   | _=>match execA E rec t h d.o.op with
    | some (v,h')=>match again d.ahead h' seen with
     | some seen'=>forceV v fun v=>drawA E rec ds l (tput t d.o.dst v) h' seen'
     | none=>none
    | none=>none
  | some false=>drawA E rec ds l (tput t d.o.dst .undef) h seen
  | none=>none
def scopeA (rec:Rec) (b:ACode) :Nat→ACode→Option Pos→AAct→AHeap→Option (AExit × AAct × AHeap)
 | 0,_,_,_,_=>none
 | n + 1,c,ro,a,h=>match rec c ro a h with
  | some (.goto l,a',h')=>match b.find l with
   | some c'=>scopeA rec b n c' ro a' h'
   | none=>some (.goto l,a',h')
  | r=>r
def ev (E:Env) :Nat→Rec
 | 0,_,_,_,_=>none
 | n + 1,c,ro,a,h =>
  match c with
  | .skip=>some (.normal,a,h)
  | .region ops=>opsA E (ev E n) a.ds ops a.t h
  | .draw ops=>drawA E (ev E n) a.ds ops a.t h []
  | .seq x y=>match ev E n x ro a h with
   | some (.normal,a',h')=>ev E n y ro a' h'
   | r=>r
  | .cond x c1 c2=>match x.ev a.t with
   | .bool true=>ev E n c1 ro a h
   | .bool false=>ev E n c2 ro a h
   | _=>none
  | .block id b=>match ev E n b ro a h with
   | some (.exit id',a',h')=>match Nat.beq id id' with
    | true=>some (.normal,a',h')
    | false=>some (.exit id',a',h')
   | r=>r
  | .loop b=>match ev E n b ro a h with
   | some (.normal,a',h')=>ev E n (.loop b) ro a' h'
   | r=>r
  | .rangeFunc f ps assign body =>
   match (match ro with
    | some l=>match PT.get l h.t with
     | some (.loop r)=>some (r.defers,a.ds,h)
     | _=>none
    | none=>match h.new (.dfr true) with
     | (r,h')=>some (r,.mark r :: a.ds,h')) with
   | some (dfr,ds,h1)=>match h1.new (.loop ⟨.ready,.none,a.t,ps,assign,body,dfr⟩) with
    | (l,h2)=>match (match f.ev a.t with
      | .func g first caps=>callF E (ev E n) g (first ++ (AVal.yld l :: caps)) h2
      | _=>none) with
     | some (_,h3)=>match PT.get l h3.t with
      | some (.loop r)=>match r.state with
       | .busy=>none
       | _=>match r.pending with
        | .none=>some (.normal,⟨a.t,ds⟩,h3.kill l)
        | .ret=>some (.ret,⟨a.t,ds⟩,h3.kill l)
        | .exit id=>some (.exit id,⟨a.t,ds⟩,h3.kill l)
      | _=>none
     | none=>none
   | none=>none
  | .exit id=>some (.exit id,a,h)
  | .ret=>some (.ret,a,h)
  | .label _=>some (.normal,a,h)
  | .goto l=>some (.goto l,a,h)
  | .scope b=>scopeA (ev E n) b n b ro a h
  | .bad=>none
end Go.Am
end

section
namespace Go.Am
structure Tys where
 info:PT TypeInfo
 /-- How many package-level variables there are. -/
 ng:Nat
 /-- Structs whose values are held against each other. -/
 cmps:List TypeId
def Tys.get (T:Tys) (t:TypeId) :Option TypeInfo:=match Nat.blt t 2147483648 with
 | true=>PT.get (Pos.ofNat t) T.info
 | false=>none
def Tys.und (T:Tys) (t:TypeId) :Option TypeDesc :=
 match T.get t with
 | some i=>match i.desc with
  | .named _ u=>match T.get u with
   | some j=>some j.desc
   | none=>none
  | d=>some d
 | none=>none
def Tys.size (T:Tys) (t:TypeId) :Option Nat:=match T.get t with | some i=>some i.size | none=>none
def Tys.isAgg (T:Tys) (t:TypeId) :Option Bool:=match T.und t with
 | some (.struct _) | some (.array _ _)=>some true
 | some _=>some false
 | none=>none
def bytesN:List UInt8→List Nat
 | []=>[]
 | b :: l=>b.toNat :: bytesN l
def cscal:Value→Option AVal
 | .bool b=>some (.bool b)
 | .int k n=>some (.int k n)
 | .string s=>some (.str (bytesN s.data.toList))
 | .pointer none=>some .pnil
 | .slice none 0 0=>some .snil
 | .map none=>some .mnil
 | .nilFunc=>some .fnil
 | .nilIface=>some .inil
 | _=>none
def cscals:List Value→Option (List AVal)
 | []=>some []
 | v :: l=>match cscal v,cscals l with
  | some a,some m=>some (a :: m)
  | _,_=>none
def ofConst:Value→Option AVal
 | .agg cs=>match cscals cs.toList with
  | some l=>some (.agg l)
  | none=>none
 | .tuple cs=>match cscals cs.toList with
  | some l=>some (.tup l)
  | none=>none
 | .iface t v=>match cscal v with
  | some a=>some (.iface t a)
  | none=>none
 | v=>cscal v
def opnd (T:Tys) :Operand→Option AOpnd
 | .tmp t=>match Nat.blt t 2147483648 with
  | true=>some (.t (Pos.ofNat t))
  | false=>none
 | .const v=>match ofConst v with
  | some a=>some (.c a)
  | none=>none
 | .global g=>match Nat.blt g T.ng with
  | true=>some (.c (.ptr (Pos.ofNat g) 0))
  | false=>none
 | .func f=>some (.c (.func f [] []))
def opnds (T:Tys) :List Operand→Option (List AOpnd)
 | []=>some []
 | x :: l=>match opnd T x,opnds T l with
  | some a,some m=>some (a :: m)
  | _,_=>none
def opndO (T:Tys) :Option Operand→Option (Option AOpnd)
 | none=>some none
 | some x=>match opnd T x with
  | some a=>some (some a)
  | none=>none
def zeroOf (T:Tys) (t:TypeId) :Option AVal:=match T.get t with
 | some i=>match i.zero with
  | some v=>ofConst v
  | none=>none
 | none=>none
def partsS (T:Tys) (fs:List Field) :List (Nat × Operand)→Option (List (Nat × Nat × AOpnd))
 | []=>some []
 | (i,x) :: ps=>match fs[i]? with
  | some f=>match T.size f.type,opnd T x,partsS T fs ps with
   | some s,some a,some m=>some ((f.offset,s,a) :: m)
   | _,_,_=>none
  | none=>none
def partsA (T:Tys) (size:Nat) :List (Nat × Operand)→Option (List (Nat × Nat × AOpnd))
 | []=>some []
 | (i,x) :: ps=>match opnd T x,partsA T size ps with
  | some a,some m=>some ((i * size,size,a) :: m)
  | _,_=>none
def eqScal (T:Tys) (t:TypeId) :Option EqK:=match T.und t with
 | some .bool=>some .bool
 | some (.int _)=>some .int
 | some .string=>some .str
 | _=>none
def eqFields (T:Tys) :List Field→Nat→Option (List EqK)
 | [],_=>some []
 | f :: fs,i=>match f.name != "_",Nat.beq f.offset i,T.isAgg f.type,eqScal T f.type,eqFields T fs (i + 1) with
  | true,true,some false,some q,some m=>some (q :: m)
  | _,_,_,_,_=>none
def isConstO:Operand→Bool
 | .const _=>true
 | _=>false
def eqType (T:Tys) (t:TypeId) (x y:Operand) :Option EqKs:=match T.und t with
 | some .bool=>some (.one .bool)
 | some (.pointer e)=>match T.size e with | some (_ + 1)=>some (.one .ptr) | _=>none
 | some (.slice _)=>some (.one .sl)
 | some (.map _ _)=>some (.one .map)
 | some (.func _ _ _)=>some (.one .func)
 | some (.interface _)=>match isConstO x || isConstO y with | true=>some (.one .iface) | false=>none
 | some (.struct fs)=>match T.cmps.contains t,eqFields T fs.toList 0 with | true,some l=>some (.cells l) | _,_=>none
 | some (.array n e)=>match eqScal T e,T.isAgg e,T.size e with | some q,some false,some 1=>some (.cells (List.replicate n q)) | _,_,_=>none
 | _=>none
def keyKind (T:Tys) (t:TypeId) :Option EqK:=match T.und t with
 | some (.int _)=>some .int
 | some .string=>some .str
 | some (.pointer e)=>match T.size e with | some (_ + 1)=>some .ptr | _=>none
 | some (.array n e)=>match n,T.und e,T.isAgg e,T.size e with
  | 2,some (.int _),some false,some 1=>some .pair
  | _,_,_,_=>none
 | _=>none
def compCall (T:Tys) (c:Call) :Option AOp :=
 match c.callee with
 | .value (.func f)=>match opnds T c.args.toList with
  | some l=>some (.callF f l)
  | none=>none
 | .value f=>match opnd T f,opnds T c.args.toList with
  | some g,some l=>some (.callV g l)
  | _,_=>none
 | .invoke _ _=>none
 | .builtin b=>match b,c.args.toList,c.argTypes.toList with
  | .len,[x],t :: _=>match T.und t,opnd T x with
   | some (.string),some a=>some (.len 0 a)
   | some (.slice _),some a=>some (.len 1 a)
   | some (.map _ _),some a=>some (.len 2 a)
   | some (.array n _),some _=>some (.move (.c (.int .i64 (.ofNat n))))
   | some (.pointer p),some _=>match T.und p with
    | some (.array n _)=>some (.move (.c (.int .i64 (.ofNat n))))
    | _=>none
   | _,_=>none
  | .append,[s,x],ts :: tx=>match T.und ts,opnd T s,opnd T x with
   | some (.slice e),some a,some b=>match T.get e with
    | some i=>match (match tx with
      | []=>some true
      | t :: _=>match T.und t with
       | some (.int _)=>some false
       | some _=>some true
       | none=>none),i.size,i.bytes,zeroOf T e with
     | some true,sz + 1,by_ + 1,some _=>some (.append (sz + 1) (by_ + 1) a b)
     | _,_,_,_=>none
    | none=>none
   | _,_,_=>none
  | .copy,[d,s],t :: _=>match T.und t,opnd T d,opnd T s with
   | some (.slice e),some a,some b=>match T.size e with
    | some sz=>some (.copy sz a b)
    | none=>none
   | _,_,_=>none
  | .min,xs,_=>match opnds T xs with
   | some l=>some (.mm false l)
   | none=>none
  | .max,xs,_=>match opnds T xs with
   | some l=>some (.mm true l)
   | none=>none
  | .clear,[x],t :: _=>match T.und t,opnd T x with
   | some (.slice e),some a=>match zeroOf T e,T.size e with
    | some z,some (_ + 1)=>some (.clear (vcells z) a)
    | _,_=>none
   | _,_=>none
  | .delete,[m,k],t :: _=>match T.und t,opnd T m,opnd T k with
   | some (.map kt _),some a,some b=>match keyKind T kt with
    | some q=>some (.mapUpdate q a b (.c .any))
    | none=>none
   | _,_,_=>none
  | _,_,_=>none
def compOp (T:Tys) (o:Op) :Option AOp :=
 match o with
 | .move x | .assign x=>match opnd T x with
  | some a=>some (.move a)
  | none=>none
 | .pick c a b=>match opnd T c,opnd T a,opnd T b with
  | some c,some a,some b=>some (.pick c a b)
  | _,_,_=>none
 | .alloc e=>match zeroOf T e with
  | some z=>some (.alloc (vcells z))
  | none=>none
 | .box _ x=>match opnd T x with
  | some a=>some (.box a)
  | none=>none
 | .build t ps=>match zeroOf T t,T.und t with
  | some z,some (.struct fs)=>match partsS T fs.toList ps.toList,fs.toList.all fun f=>(T.size f.type).isSome with
   | some l,true=>some (.build (vcells z) l)
   | _,_=>none
  | some z,some (.array _ e)=>match T.size e with
   | some s=>match partsA T s ps.toList with
    | some l=>some (.build (vcells z) l)
    | none=>none
   | none=>none
  | _,_=>none
 | .buildSlice t len ps=>match T.und t with
  | some (.slice e)=>match T.size e,zeroOf T e with
   | some s,some z=>match partsA T s ps.toList,Nat.ble (len * s) 16777216 with
    | some l,true=>some (.buildSlice (repl (vcells z) len) len l)
    | _,_=>none
   | _,_=>none
  | _=>none
 | .load t x=>match T.isAgg t,T.size t,opnd T x with
  | some true,some n,some a=>some (.loadN n a)
  | some false,some _,some a=>some (.load1 a)
  | _,_,_=>none
 | .store t x y=>match T.size t,opnd T x,opnd T y with
  | some n,some a,some b=>some (.store n a b)
  | _,_,_=>none
 | .nilCheck x=>match opnd T x with
  | some a=>some (.nilCheck a)
  | none=>none
 | .binOp op t x y _=>match opnd T x,opnd T y with
  | some a,some b=>match T.und t with
   | some (.int _) | some .string=>some (.bin op a b)
   | _=>match op,eqType T t x y with
    | .eql,some n=>some (.eq false n a b)
    | .neq,some n=>some (.eq true n a b)
    | _,_=>none
  | _,_=>none
 | .unOp op _ x=>match opnd T x with
  | some a=>some (.un op a)
  | none=>none
 | .convert s d x=>match T.und s,T.und d,opnd T x with
  | some (.int _),some (.int k),some a=>some (.conv (.toInt k) a)
  | some .string,some .string,some a=>some (.conv .same a)
  | some .string,some (.slice e),some a=>match T.und e with
   | some (.int .u8)=>some (.conv .strBytes a)
   | _=>none
  | some (.slice e),some .string,some a=>match T.und e with
   | some (.int .u8)=>some (.conv .bytesStr a)
   | _=>none
  | some (.slice _),some (.slice e),some a=>match Nat.beq s d,T.und e with
   | true,some (.int .u8)=>some (.conv .mark a)
   | _,_=>none
  | _,_,_=>none
 | .fieldAddr s x f=>match T.und s,opnd T x with
  | some (.struct fs),some a=>match fs[f]? with
   | some fd=>match T.size fd.type with
    | some (_ + 1)=>some (.fieldAddr fd.offset a)
    | _=>none
   | none=>none
  | _,_=>none
 | .indexAddr t x i=>match T.und t,opnd T x,opnd T i with
  | some (.slice e),some a,some b=>match T.size e with
   | some s=>some (.idxS s a b)
   | none=>none
  | some (.array n e),some a,some b=>match T.size e with
   | some s=>some (.idxA n s a b)
   | none=>none
  | _,_,_=>none
 | .field t x f=>match T.und t,opnd T x with
  | some (.struct fs),some a=>match fs[f]? with
   | some fd=>match T.isAgg fd.type,T.size fd.type with
    | some true,some n=>some (.fieldN fd.offset n a)
    | some false,some _=>some (.field1 fd.offset a)
    | _,_=>none
   | none=>none
  | _,_=>none
 | .index t x i=>match T.und t,opnd T x,opnd T i with
  | some .string,some a,some b=>some (.idxStr a b)
  | some (.array n e),some a,some b=>match T.isAgg e,T.size e with
   | some false,some 1=>some (.idxArr n a b)
   | _,_=>none
  | _,_,_=>none
 | .slice t x lo hi mx=>match opnd T x,opndO T lo,opndO T hi,opndO T mx with
  | some a,some l,some h,some m=>match (match m,h with | some _,none=>none | _,_=>T.und t) with
   | some .string=>some (.slice .str a l h m)
   | some (.slice e)=>match T.size e with
    | some (s + 1)=>some (.slice (.sl (s + 1)) a l h m)
    | _=>none
   | some (.array n e)=>match T.size e with
    | some (s + 1)=>some (.slice (.arr n (s + 1)) a l h m)
    | _=>none
   | _=>none
  | _,_,_,_=>none
 | .sliceToArrayPointer t x=>match T.und t,opnd T x with
  | some (.array (n + 1) _),some a=>some (.s2ap (n + 1) a)
  | _,_=>none
 | .makeInterface t x=>match T.und t,opnd T x with
  | some (.interface _),_=>none
  | some _,some a=>some (.mkI t a)
  | _,_=>none
 | .makeFunc (.func f) first caps=>match opnds T first.toList,opnds T caps.toList with
  | some a,some b=>some (.mkF f a b)
  | _,_=>none
 | .makeMap _ none=>some .mkMap
 | .makeSlice t l c=>match T.und t,opnd T l,opnd T c with
  | some (.slice e),some a,some b=>match T.get e,zeroOf T e with
   | some i,some z=>some (.mkSlice (vcells z) i.bytes a b)
   | _,_=>none
  | _,_,_=>none
 | .lookup t x k ok=>match T.und t,opnd T x,opnd T k with
  | some (.map kt e),some a,some b=>match keyKind T kt,zeroOf T e with
   | some q,some z=>some (.lookup q z a b ok)
   | _,_=>none
  | _,_,_=>none
 | .mapUpdate t m k v=>match T.und t,opnd T m,opnd T k,opnd T v with
  | some (.map kt _),some a,some b,some c=>match keyKind T kt with
   | some q=>some (.mapUpdate q a b c)
   | none=>none
  | _,_,_,_=>none
 | .extract x i=>match opnd T x with
  | some a=>some (.extract a i)
  | none=>none
 | .call c=>compCall T c
 | .defer c=>match c.callee with
  | .value f=>match opnd T f,opnds T c.args.toList with
   | some g,some l=>some (.defer g l)
   | _,_=>none
  | _=>none
 | _=>none
def guardOf (ops:List Oper) :Option (Nat × Bool)→Option (Option (Pos × Bool))
 | none=>some none
 | some (j,want)=>match ops[j]? with
  | some o=>match o.dst with
   | some d=>match Nat.blt d 2147483648 with
    | true=>some (some (Pos.ofNat d,want))
    | false=>none
   | none=>none
  | none=>none
def dstOf (nt:Nat) :Option Tmp→Option (Option Pos)
 | none=>some none
 | some d=>match Nat.blt d nt with
  | true=>some (some (Pos.ofNat d))
  | false=>none
def compOper (T:Tys) (nt:Nat) (ops:List Oper) (o:Oper) :Option AOper :=
 match guardOf ops o.guard,dstOf nt o.dst with
 | some g,some d=>match compOp T o.op with
  | some a=>some ⟨d,a,g⟩
  | none=>some ⟨d,.bad,g⟩
 | _,_=>none
def compOpers (T:Tys) (nt:Nat) (ops:List Oper) :List Oper→Option (List AOper)
 | []=>some []
 | o :: l=>match compOper T nt ops o,compOpers T nt ops l with
  | some a,some m=>some (a :: m)
  | _,_=>none
def isQuiet:AOp→Bool
 | .alloc _ | .box _ | .buildSlice .. | .store .. | .conv .strBytes _ | .conv .mark _ | .mkMap | .mkSlice .. | .mapUpdate .. | .append .. | .copy .. | .callF .. | .callV .. | .clear .. | .defer .. | .bad=>false
 | _=>true
def clsOf:AOp→Nat
 | .alloc _ | .box _ | .buildSlice .. | .mkSlice ..=>1
 | op=>match isQuiet op with
  | true=>0
  | false=>2
def needOf:List Edge→Nat
 | []=>0
 | e :: l=>match Region.binds .any e with
  | true=>Nat.lor (Nat.pow 2 e.on) (needOf l)
  | false=>needOf l
def aheadOf (before:List Nat) :List Edge→Nat
 | []=>0
 | e :: l=>match Region.binds .any e with
  | true=>Nat.lor (Nat.lor (Nat.pow 2 e.on) (before.getD e.on 0)) (aheadOf before l)
  | false=>aheadOf before l
def compDraws (T:Tys) (nt:Nat) (ops:List Oper) :List Oper→Nat→List Nat→Option (List ADraw)
 | [],_,_=>some []
 | o :: l,i,before=>match compOper T nt ops o with
  | some a=>match compDraws T nt ops l (i + 1) (before ++ [aheadOf before o.after.toList]) with
   | some m=>some (⟨a,clsOf a.op,i,Nat.pow 2 i,needOf o.after.toList,aheadOf before o.after.toList⟩ :: m)
   | none=>none
  | none=>none
def hasB (m b:Nat) :Bool:=Nat.beq (Nat.land m b) b
def loudsIn (D:List ADraw) (m:Nat) :Nat :=
 match D with
 | []=>0
 | d :: l=>match d.cls,hasB m d.bit with
  | 2,true=>Nat.succ (loudsIn l m)
  | _,_=>loudsIn l m
def phase (D:List ADraw) (k:Nat) (loud:Bool) :List ADraw→List ADraw
 | []=>[]
 | d :: l=>match Nat.beq (loudsIn D d.ahead) k,Nat.beq d.cls 2 == loud with
  | true,true=>d :: phase D k loud l
  | _,_=>phase D k loud l
def phases (D:List ADraw) :Nat→List ADraw
 | 0=>phase D 0 false D ++ phase D 0 true D
 | k + 1=>phases D k ++ (phase D (k + 1) false D ++ phase D (k + 1) true D)
def AOpnd.tmp:AOpnd→List Pos
 | .t p=>[p]
 | .c _=>[]
def tmpsL:List AOpnd→List Pos
 | []=>[]
 | x :: l=>x.tmp ++ tmpsL l
def tmpsP:List (Nat × Nat × AOpnd)→List Pos
 | []=>[]
 | (_,_,x) :: l=>x.tmp ++ tmpsP l
def tmpsO:Option AOpnd→List Pos
 | none=>[]
 | some x=>x.tmp
def AOp.tmps:AOp→List Pos
 | .move x | .box x | .load1 x | .loadN _ x | .nilCheck x | .un _ x | .conv _ x | .fieldAddr _ x | .field1 _ x | .fieldN _ _ x | .s2ap _ x | .mkI _ x | .extract x _ | .len _ x | .clear _ x=>x.tmp
 | .pick c a b=>c.tmp ++ (a.tmp ++ b.tmp)
 | .alloc _ | .mkMap | .bad=>[]
 | .build _ ps | .buildSlice _ _ ps=>tmpsP ps
 | .store _ x y | .bin _ x y | .eq _ _ x y | .idxS _ x y | .idxA _ _ x y | .idxStr x y | .idxArr _ x y | .mkSlice _ _ x y | .lookup _ _ x y _ | .append _ _ x y | .copy _ x y=>x.tmp ++ y.tmp
 | .slice _ x lo hi mx=>x.tmp ++ (tmpsO lo ++ (tmpsO hi ++ tmpsO mx))
 | .mkF _ a b=>tmpsL a ++ tmpsL b
 | .mapUpdate _ m k v=>m.tmp ++ (k.tmp ++ v.tmp)
 | .callF _ l | .mm _ l=>tmpsL l
 | .callV f l | .defer f l=>f.tmp ++ tmpsL l
def tmpsG:Option (Pos × Bool)→List Pos
 | none=>[]
 | some (p,_)=>[p]
def AOper.tmps (o:AOper) :List Pos:=o.op.tmps ++ tmpsG o.guard
def depOk (D:List ADraw) (e:ADraw) :Bool :=
 e.o.tmps.all fun p=>D.all fun x=>match x.o.dst with
  | some q=>match Pos.beq q p with
   | true=>Nat.beq x.idx e.idx || (hasB e.ahead x.bit || hasB x.ahead e.bit)
   | false=>true
  | none=>true
def dstOk (D:List ADraw) (e:ADraw) :Bool :=
 D.all fun x=>Nat.beq x.idx e.idx || match x.o.dst,e.o.dst with
  | some p,some q=>!Pos.beq p q
  | _,_=>true
def closure (D:List ADraw) (need:Nat) :Nat :=
 match D with
 | []=>0
 | x :: l=>match hasB need x.bit with
  | true=>Nat.lor (Nat.lor x.bit x.ahead) (closure l need)
  | false=>closure l need
def schedOk (D:List ADraw) (n:Nat) :List ADraw→Nat→Nat→Bool
 | [],M,_=>Nat.beq M (Nat.pred (Nat.pow 2 n))
 | e :: l,M,ML=>(Nat.beq (Nat.land M e.bit) 0 && (hasB M e.need && (hasB e.ahead ML && (depOk D e && (dstOk D e && hasB (closure D e.need) e.ahead))))) &&
  schedOk D n l (Nat.lor M e.bit) (match Nat.beq e.cls 2 with | true=>Nat.lor ML e.bit | false=>ML)
def compDraw (T:Tys) (nt:Nat) (ops:List Oper) :Option (List ADraw) :=
 match compDraws T nt ops ops 0 [] with
 | some D=>match phases D D.length with
  | S=>match schedOk D ops.length S 0 0 with
   | true=>some S
   | false=>none
 | none=>none
def isDefer:AOp→Bool
 | .defer ..=>true
 | _=>false
def noDefer:List AOper→Bool
 | []=>true
 | o :: l=>!isDefer o.op && noDefer l
def comp (T:Tys) (nt:Nat) (rnd:Bool) :Code→ACode
 | .skip=>.skip
 | .label l=>.label l
 | .region _ ops draw=>match draw with
  | false=>match compOpers T nt ops.toList ops.toList with
   | some l=>match rnd,noDefer l with
    | true,false=>.bad
    | _,_=>.region l
   | none=>.bad
  | true=>match compDraw T nt ops.toList with
   | some l=>.draw l
   | none=>.bad
 | .seq a b=>.seq (comp T nt rnd a) (comp T nt rnd b)
 | .cond c a b=>match opnd T c with
  | some x=>.cond x (comp T nt rnd a) (comp T nt rnd b)
  | none=>.bad
 | .block id b=>.block id (comp T nt rnd b)
 | .loop b=>.loop (comp T nt rnd b)
 | .rangeFunc f ps a b=>match opnd T f,ps.toList.all (Nat.blt · nt) with
  | some x,true=>.rangeFunc x (ps.toList.map Pos.ofNat) (comp T nt true a) (comp T nt true b)
  | _,_=>.bad
 | .exit id=>.exit id
 | .ret=>.ret
 | .scope b=>.scope (comp T nt rnd b)
 | .goto l=>.goto l
 | .refuse _=>.bad
def compRes (T:Tys) :List ResultVar→Option (List (Pos × Option Nat))
 | []=>some []
 | .tmp t :: l=>match Nat.blt t 2147483648,compRes T l with
  | true,some m=>some ((Pos.ofNat t,none) :: m)
  | _,_=>none
 | .cell a t :: l=>match Nat.blt a 2147483648,T.isAgg t,T.size t,compRes T l with
  | true,some true,some (n + 1),some m=>some ((Pos.ofNat a,some (n + 1)) :: m)
  | true,some false,some _,some m=>some ((Pos.ofNat a,some 0) :: m)
  | _,_,_,_=>none
def compFun (T:Tys) (f:Func) :Option AFun :=
 match f.body,compRes T f.results.toList,Nat.blt f.ntmps 2147483648 with
 | some c,some rs,true=>some ⟨f.ntmps,comp T f.ntmps false c,rs⟩
 | _,_,_=>none
def tysOf:List TypeInfo→Nat→PT TypeInfo→PT TypeInfo
 | [],_,t=>t
 | i :: l,n,t=>tysOf l (n + 1) (PT.set (Pos.ofNat n) (some i) t)
end Go.Am
end

section
namespace Go.Am
noncomputable section
def getN {α:Type} (_:PT α) (v:Option α) (_:PT α) (iha ihb:Pos→Option α) (p:Pos) :Option α :=
 @Pos.rec (fun _=>Option α) v (fun q _=>iha q) (fun q _=>ihb q) p
def getF {α:Type} (t:PT α) :Pos→Option α :=
 @PT.rec α (fun _=>Pos→Option α) (fun _=>none) getN t
def setL {α:Type} (p:Pos) (x:Option α) :PT α:=PT.one p x
def setN {α:Type} (a:PT α) (v:Option α) (b:PT α) (iha ihb:Pos→Option α→PT α) (p:Pos) :Option α→PT α :=
 @Pos.rec (fun _=>Option α→PT α) (fun x=>.n a x b) (fun q _ x=>.n (iha q x) v b) (fun q _ x=>.n a v (ihb q x)) p
def setF {α:Type} (t:PT α) :Pos→Option α→PT α :=
 @PT.rec α (fun _=>Pos→Option α→PT α) setL setN t
abbrev KR:=Option (AExit × AAct × AHeap)
abbrev KV:=AVal→AHeap→KR
def orUndef (v:Option AVal) :AVal:=@Option.rec AVal (fun _=>AVal) .undef (fun v=>v) v
def tgetF (p:Pos) (t:PT AVal) :AVal:=orUndef (getF t p)
def cstF (v:AVal) (_:PT AVal) :AVal:=v
def evO (x:AOpnd) :PT AVal→AVal:=@AOpnd.rec (fun _=>PT AVal→AVal) tgetF cstF x
def onInt:AVal→(IntKind→Int→KR)→KR→KR:=@AVal.rec (fun _=>(IntKind→Int→KR)→KR→KR) (fun _=>PUnit) (fun _=>fun _ d=>d) (fun k n=>fun f _=>f k n) (fun _=>fun _ d=>d) (fun _ d=>d) (fun _ _=>fun _ d=>d) (fun _ d=>d) (fun _ _ _ _ _=>fun _ d=>d) (fun _ d=>d) (fun _=>fun _ d=>d) (fun _ d=>d) (fun _ _ _ _ _=>fun _ d=>d) (fun _=>fun _ d=>d) (fun _ d=>d) (fun _ _ _=>fun _ d=>d) (fun _ _=>fun _ d=>d) (fun _ _=>fun _ d=>d) (fun _ d=>d) PUnit.unit (fun _ _ _ _=>PUnit.unit)
def onBool:AVal→(Bool→KR)→KR→KR:=@AVal.rec (fun _=>(Bool→KR)→KR→KR) (fun _=>PUnit) (fun b=>fun f _=>f b) (fun _ _=>fun _ d=>d) (fun _=>fun _ d=>d) (fun _ d=>d) (fun _ _=>fun _ d=>d) (fun _ d=>d) (fun _ _ _ _ _=>fun _ d=>d) (fun _ d=>d) (fun _=>fun _ d=>d) (fun _ d=>d) (fun _ _ _ _ _=>fun _ d=>d) (fun _=>fun _ d=>d) (fun _ d=>d) (fun _ _ _=>fun _ d=>d) (fun _ _=>fun _ d=>d) (fun _ _=>fun _ d=>d) (fun _ d=>d) PUnit.unit (fun _ _ _ _=>PUnit.unit)
def onPtr:AVal→(Pos→Nat→KR)→KR→KR:=@AVal.rec (fun _=>(Pos→Nat→KR)→KR→KR) (fun _=>PUnit) (fun _=>fun _ d=>d) (fun _ _=>fun _ d=>d) (fun _=>fun _ d=>d) (fun _ d=>d) (fun b o=>fun f _=>f b o) (fun _ d=>d) (fun _ _ _ _ _=>fun _ d=>d) (fun _ d=>d) (fun _=>fun _ d=>d) (fun _ d=>d) (fun _ _ _ _ _=>fun _ d=>d) (fun _=>fun _ d=>d) (fun _ d=>d) (fun _ _ _=>fun _ d=>d) (fun _ _=>fun _ d=>d) (fun _ _=>fun _ d=>d) (fun _ d=>d) PUnit.unit (fun _ _ _ _=>PUnit.unit)
def onSl:AVal→(Pos→Nat→Nat→Nat→Nat→KR)→KR→KR:=@AVal.rec (fun _=>(Pos→Nat→Nat→Nat→Nat→KR)→KR→KR) (fun _=>PUnit) (fun _=>fun _ d=>d) (fun _ _=>fun _ d=>d) (fun _=>fun _ d=>d) (fun _ d=>d) (fun _ _=>fun _ d=>d) (fun _ d=>d) (fun b o l c z=>fun f _=>f b o l c z) (fun _ d=>d) (fun _=>fun _ d=>d) (fun _ d=>d) (fun _ _ _ _ _=>fun _ d=>d) (fun _=>fun _ d=>d) (fun _ d=>d) (fun _ _ _=>fun _ d=>d) (fun _ _=>fun _ d=>d) (fun _ _=>fun _ d=>d) (fun _ d=>d) PUnit.unit (fun _ _ _ _=>PUnit.unit)
def onCells:AObj→(List AVal→Bool→Bool→KR)→KR→KR :=
 @AObj.rec (fun _=>(List AVal→Bool→Bool→KR)→KR→KR) (fun l a b f _=>f l a b) (fun _ _ d=>d) (fun _ _ d=>d) (fun _ _ d=>d) (fun _ _ d=>d) (fun _ _ d=>d)
def onVal:Option AVal→(AVal→KR)→KR→KR:=@Option.rec AVal (fun _=>(AVal→KR)→KR→KR) (fun _ d=>d) (fun a f _=>f a)
def onObj:Option AObj→(AObj→KR)→KR→KR:=@Option.rec AObj (fun _=>(AObj→KR)→KR→KR) (fun _ d=>d) (fun a f _=>f a)
def onList:Option (List AVal)→(List AVal→KR)→KR→KR:=@Option.rec (List AVal) (fun _=>(List AVal→KR)→KR→KR) (fun _ d=>d) (fun a f _=>f a)
def onNat:Option Nat→(Nat→KR)→KR→KR:=@Option.rec Nat (fun _=>(Nat→KR)→KR→KR) (fun _ d=>d) (fun a f _=>f a)
def onKR:KR→(AExit × AAct × AHeap→KR)→KR→KR:=@Option.rec (AExit × AAct × AHeap) (fun _=>(AExit × AAct × AHeap→KR)→KR→KR) (fun _ d=>d) (fun a f _=>f a)
def onGuard:Option (Pos × Bool)→(Pos × Bool→KR)→KR→KR:=@Option.rec (Pos × Bool) (fun _=>(Pos × Bool→KR)→KR→KR) (fun _ d=>d) (fun a f _=>f a)
def isScalF:AVal→Bool:=@AVal.rec (fun _=>Bool) (fun _=>PUnit) (fun _=>true) (fun _ _=>true) (fun _=>true) (true) (fun _ _=>true) (true) (fun _ _ _ _ _=>true) (true) (fun _=>true) (true) (fun _ _ _ _ _=>true) (fun _=>true) (true) (fun _ _ _=>true) (fun _l _i1=>false) (fun _l _i1=>false) (false) PUnit.unit (fun _ _ _ _=>PUnit.unit)
def ifB:Bool→KR→KR→KR:=@Bool.rec (fun _=>KR→KR→KR) (fun _ d=>d) (fun a _=>a)
def fNat:Nat→(Nat→KR)→KR:=@Nat.rec (fun _=>(Nat→KR)→KR) (fun k=>k 0) (fun m _ k=>k (Nat.succ m))
def fInt:Int→(Int→KR)→KR:=@Int.rec (fun _=>(Int→KR)→KR) (fun m k=>fNat m fun m=>k (.ofNat m)) (fun m k=>fNat m fun m=>k (.negSucc m))
def kInt (q:IntKind) (n:Int) (k:KV) (h:AHeap) :KR:=fInt n fun m=>k (.int q m) h
def cmpR (b:Bool) (k:KV) (h:AHeap) :KR:=ifB b (k (.bool true) h) (k (.bool false) h)
def iAdd (q:IntKind) (x y:Int) (k:KV) (h:AHeap) :KR:=kInt q (wrapI q (addI x y)) k h
def iSub (q:IntKind) (x y:Int) (k:KV) (h:AHeap) :KR:=kInt q (wrapI q (subI x y)) k h
def iLss (_:IntKind) (x y:Int) (k:KV) (h:AHeap) :KR:=cmpR (ltI x y) k h
def iLeq (_:IntKind) (x y:Int) (k:KV) (h:AHeap) :KR:=cmpR (!(ltI y x)) k h
def iGtr (_:IntKind) (x y:Int) (k:KV) (h:AHeap) :KR:=cmpR (ltI y x) k h
def iGeq (_:IntKind) (x y:Int) (k:KV) (h:AHeap) :KR:=cmpR (!(ltI x y)) k h
def iEql (_:IntKind) (x y:Int) (k:KV) (h:AHeap) :KR:=cmpR (eqI x y) k h
def iNeq (_:IntKind) (x y:Int) (k:KV) (h:AHeap) :KR:=cmpR (!(eqI x y)) k h
def kV (v:AVal) (k:KV) (h:AHeap) :KR:=forceV v fun v=>k v h
def kOV:Option AVal→KV→AHeap→KR:=@Option.rec AVal (fun _=>KV→AHeap→KR) (fun _ _=>none) kV
def iRest (op:BinOp) (q:IntKind) (x y:Int) (k:KV) (h:AHeap) :KR:=kOV (intBin op q x y) k h
def intF:BinOp→IntKind→Int→Int→KV→AHeap→KR :=
 @BinOp.rec (fun _=>IntKind→Int→Int→KV→AHeap→KR) iAdd iSub (iRest .mul) (iRest .quo) (iRest .rem) (iRest .and) (iRest .or) (iRest .xor) (iRest .shl) (iRest .shr) (iRest .andNot)
  iEql iNeq iLss iLeq iGtr iGeq
def isShift:BinOp→Bool:=@BinOp.rec (fun _=>Bool) false false false false false false false false true true false false false false false false false
def bin2 (op:BinOp) (_vx vy:AVal) (k:KV) (h:AHeap) (q:IntKind) (x:Int) :KR :=
 onInt vy (fun q' y=>ifB (kbeq q q') (intF op q x y k h) none) none
def binF (op:BinOp) (vx vy:AVal) (k:KV) (h:AHeap) :KR :=
 ifB (isShift op) (kOV (binOpA op vx vy) k h) (onInt vx (bin2 op vx vy k h) (kOV (binOpA op vx vy) k h))
abbrev QF:=PT AVal→AHeap→KV→KR
def qPick (c a b:AOpnd) :QF:=fun t h k=>onBool (evO c t) (fun z=>ifB z (k (evO a t) h) (k (evO b t) h)) none
def qLoad1b (o:Nat) (h:AHeap) (k:KV) (l:List AVal) (_ _:Bool) :KR:=onVal (lget l o) (fun v=>k v h) none
def qLoad1a (h:AHeap) (k:KV) (b:Pos) (o:Nat) :KR:=onObj (getF h.t b) (fun x=>onCells x (qLoad1b o h k) none) none
def qLoad1 (x:AOpnd) :QF:=fun t h k=>onPtr (evO x t) (qLoad1a h k) none
def qFieldAddr (off:Nat) (x:AOpnd) :QF:=fun t h k=>onPtr (evO x t) (fun b o=>fNat (Nat.add o off) fun o=>k (.ptr b o) h) none
def qBin (op:BinOp) (x y:AOpnd) :QF:=fun t h k=>binF op (evO x t) (evO y t) k h
def qNil (x:AOpnd) :QF:=fun t h k=>onPtr (evO x t) (fun b o=>k (.ptr b o) h) (kOV (quiet t h (.nilCheck x)) k h)
def qIdxS2 (sz:Nat) (h:AHeap) (k:KV) (b:Pos) (o len:Nat) (i:Nat) :KR:=ifB (Nat.blt i len) (fNat (Nat.add o (Nat.mul i sz)) fun o=>k (.ptr b o) h) none
def qIdxS1 (sz:Nat) (vi:AVal) (h:AHeap) (k:KV) (b:Pos) (o len _cap _s:Nat) :KR:=onNat (natOf vi) (qIdxS2 sz h k b o len) none
def qIdxS (sz:Nat) (x i:AOpnd) :QF:=fun t h k=>onSl (evO x t) (qIdxS1 sz (evO i t) h k) none
def qIdxA1 (n sz:Nat) (vi:AVal) (h:AHeap) (k:KV) (b:Pos) (o:Nat) :KR:=onNat (natOf vi) (qIdxS2 sz h k b o n) none
def qIdxA (n sz:Nat) (x i:AOpnd) :QF:=fun t h k=>onPtr (evO x t) (qIdxA1 n sz (evO i t) h k) none
def qLen (n:Nat) (x:AOpnd) :QF:=fun t h k=>ifB (Nat.beq n 1) (onSl (evO x t) (fun _ _ n _ _=>k (.int .i64 (.ofNat n)) h) (kOV (quiet t h (.len n x)) k h)) (kOV (quiet t h (.len n x)) k h)
def qConvI (q:IntKind) (x:AOpnd) :QF:=fun t h k=>onInt (evO x t) (fun _ n=>kInt q (wrapI q n) k h) none
def kRes2:AVal × AHeap→KV→KR:=@Prod.rec AVal AHeap (fun _=>KV→KR) (fun v h k=>forceV v fun v=>k v h)
def kRes:ARes→KV→KR:=@Option.rec (AVal × AHeap) (fun _=>KV→KR) (fun _=>none) kRes2
def qSlow (op:AOp) :QF:=fun t h k=>kRes (write t h op) k
def qStore3 (h:AHeap) (k:KV) (b:Pos) (o:Nat) (y:AVal) (l:List AVal) (op ro:Bool) :KR :=
 ifB ro none (onList (lset l o y) (fun l'=>k .undef (⟨setF h.t b (some (.cells l' op false)),h.nx⟩)) none)
def qStore2 (h:AHeap) (k:KV) (y:AVal) (b:Pos) (o:Nat) :KR:=onObj (getF h.t b) (fun x=>onCells x (qStore3 h k b o y) none) none
def qStore1 (n:Nat) (x y:AOpnd) (t:PT AVal) (h:AHeap) (k:KV) :KR :=
 ifB (isScalF (evO y t)) (onPtr (evO x t) (qStore2 h k (evO y t)) none) (kRes (write t h (.store n x y)) k)
def qStore (n:Nat) (x y:AOpnd) :QF:=fun t h k=>ifB (Nat.beq n 1) (qStore1 n x y t h k) (kRes (write t h (.store n x y)) k)
def qConv:AConv→AOpnd→QF:=@AConv.rec (fun _=>AOpnd→QF) qConvI (fun x=>qSlow (.conv .strBytes x)) (fun x=>qSlow (.conv .bytesStr x)) (fun x=>qSlow (.conv .same x)) (fun x=>qSlow (.conv .mark x))
abbrev Rec':=ACode→Option Pos→AAct→AHeap→KR
abbrev LF:=List ADef→PT AVal→AHeap→KR
abbrev XF:=Env→Rec'→Option Pos→LF→List ADef→PT AVal→AHeap→KR
def putD:Option Pos→AVal→PT AVal→PT AVal:=@Option.rec Pos (fun _=>AVal→PT AVal→PT AVal) (fun _ t=>t) (fun p v t=>setF t p (some v))
def afterF (d:Option Pos) (next:LF) (ds:List ADef) (t:PT AVal) (v:AVal) (h:AHeap) :KR:=next ds (putD d v t) h
def evsF (l:List AOpnd) :PT AVal→List AVal:=@List.rec AOpnd (fun _=>PT AVal→List AVal) (fun _=>[]) (fun x _ ih t=>evO x t :: ih t) l
def xCallF (f:FuncId) (args:List AOpnd) :XF:=fun E rec d next ds t h=>kRes (callA E rec f (evsF args t) h) (afterF d next ds t)
def xCallV (f:AOpnd) (args:List AOpnd) :XF:=fun E rec d next ds t h=>kRes (callVal E rec (evO f t) (evsF args t) h) (afterF d next ds t)
def xQ (q:QF) :XF:=fun _ _ d next ds t h=>q t h (afterF d next ds t)
def xMove (x:AOpnd) :XF:=fun _ _ d next ds t h=>next ds (putD d (evO x t) t) h
def xDefer (f:AOpnd) (args:List AOpnd) :XF:=fun _ _ d next ds t h =>
 match f.ev t with
 | .func g first caps=>next (.fn g (first ++ (evs t args ++ caps)) :: ds) (tput t d .undef) h
 | _=>none
def xBad:XF:=fun _ _ _ _ _ _ _=>none
def execF:AOp→XF:=@AOp.rec (fun _=>XF)
 xMove (fun c a b=>xQ (qPick c a b)) (fun z=>xQ (qSlow (.alloc z))) (fun x=>xQ (qSlow (.box x))) (fun z ps=>xQ (qSlow (.build z ps))) (fun z l ps=>xQ (qSlow (.buildSlice z l ps)))
 (fun x=>xQ (qLoad1 x)) (fun n x=>xQ (qSlow (.loadN n x))) (fun n x y=>xQ (qStore n x y)) (fun x=>xQ (qNil x)) (fun op x y=>xQ (qBin op x y)) (fun g n x y=>xQ (qSlow (.eq g n x y)))
 (fun op x=>xQ (qSlow (.un op x))) (fun c x=>xQ (qConv c x)) (fun off x=>xQ (qFieldAddr off x)) (fun sz x i=>xQ (qIdxS sz x i)) (fun n sz x i=>xQ (qIdxA n sz x i))
 (fun o x=>xQ (qSlow (.field1 o x))) (fun o n x=>xQ (qSlow (.fieldN o n x))) (fun x i=>xQ (qSlow (.idxStr x i))) (fun n x i=>xQ (qSlow (.idxArr n x i))) (fun k x l h m=>xQ (qSlow (.slice k x l h m)))
 (fun n x=>xQ (qSlow (.s2ap n x))) (fun t x=>xQ (qSlow (.mkI t x))) (fun f a b=>xQ (qSlow (.mkF f a b))) (xQ (qSlow .mkMap)) (fun z b l c=>xQ (qSlow (.mkSlice z b l c))) (fun q z x k ok=>xQ (qSlow (.lookup q z x k ok)))
 (fun q m k v=>xQ (qSlow (.mapUpdate q m k v))) (fun x i=>xQ (qSlow (.extract x i))) xCallF xCallV (fun n x=>xQ (qLen n x)) (fun a b s x=>xQ (qSlow (.append a b s x))) (fun s d x=>xQ (qSlow (.copy s d x))) (fun m xs=>xQ (qSlow (.mm m xs)))
 (fun z x=>xQ (qSlow (.clear z x))) xDefer xBad
def guardF (E:Env) (rec:Rec') (d:Option Pos) (op:AOp) (next:LF) (ds:List ADef) (t:PT AVal) (h:AHeap) (g:Pos × Bool) :KR :=
 @Option.rec Bool (fun _=>KR) none (fun b=>ifB b (execF op E rec d next ds t h) (next ds (putD d .undef t) h)) (wantedA t (some g))
def operF (E:Env) (rec:Rec') (next:LF) (ds:List ADef) (t:PT AVal) (h:AHeap) (d:Option Pos) (op:AOp) (g:Option (Pos × Bool)) :KR :=
 onGuard g (guardF E rec d op next ds t h) (execF op E rec d next ds t h)
def onOper:AOper→(Option Pos→AOp→Option (Pos × Bool)→KR)→KR:=@AOper.rec (fun _=>(Option Pos→AOp→Option (Pos × Bool)→KR)→KR) (fun d o g f=>f d o g)
def stepF (E:Env) (rec:Rec') (o:AOper) (next:LF) :LF:=fun ds t h=>onOper o (operF E rec next ds t h)
def endF:LF:=fun ds t h=>some (.normal,⟨t,ds⟩,h)
def opsF (E:Env) (rec:Rec') (l:List AOper) :LF:=@List.rec AOper (fun _=>LF) endF (fun o _ ih=>stepF E rec o ih) l
abbrev CF:=Env→Rec'→Option Pos→AAct→AHeap→KR
def isNormal:AExit→KR→KR→KR:=@AExit.rec (fun _=>KR→KR→KR) (fun f _=>f) (fun _ d=>d) (fun _ _ d=>d) (fun _ _ d=>d)
def seq2 (next:AAct→AHeap→KR) (e:AExit) (p:AAct × AHeap) :KR :=
 @Prod.rec AAct AHeap (fun _=>KR) (fun a h=>isNormal e (next a h) (some (e,a,h))) p
def seq1 (next:AAct→AHeap→KR) (p:AExit × AAct × AHeap) :KR:=@Prod.rec AExit (AAct × AHeap) (fun _=>KR) (seq2 next) p
def seqF (r:KR) (next:AAct→AHeap→KR) :KR:=@Option.rec (AExit × AAct × AHeap) (fun _=>(AAct→AHeap→KR)→KR) (fun _=>none) (fun p next=>seq1 next p) r next
def cSkip:CF:=fun _ _ _ a h=>some (.normal,a,h)
def onAct:AAct→(PT AVal→List ADef→KR)→KR:=@AAct.rec (fun _=>(PT AVal→List ADef→KR)→KR) (fun t ds f=>f t ds)
def cRegion (ops:List AOper) :CF:=fun E rec _ a h=>onAct a (fun t ds=>opsF E rec ops ds t h)
def cDraw (ops:List ADraw) :CF:=fun E rec _ a h=>drawA E rec a.ds ops a.t h []
def cSeq (x y:ACode) :CF:=fun _ rec ro a h=>seqF (rec x ro a h) (rec y ro)
def actT:AAct→PT AVal:=@AAct.rec (fun _=>PT AVal) (fun t _=>t)
def cCond (x:AOpnd) (c1 c2:ACode) :CF:=fun _ rec ro a h=>onBool (evO x (actT a)) (fun b=>ifB b (rec c1 ro a h) (rec c2 ro a h)) none
def onExit:AExit→(Nat→KR)→KR→KR:=@AExit.rec (fun _=>(Nat→KR)→KR→KR) (fun _ d=>d) (fun _ d=>d) (fun id f _=>f id) (fun _ _ d=>d)
def block3 (id:Nat) (e:AExit) (a:AAct) (h:AHeap) :KR :=
 onExit e (fun id'=>ifB (Nat.beq id id') (some (.normal,a,h)) (some (.exit id',a,h))) (some (e,a,h))
def block2 (id:Nat) (e:AExit) (p:AAct × AHeap) :KR:=@Prod.rec AAct AHeap (fun _=>KR) (block3 id e) p
def block1 (id:Nat) (p:AExit × AAct × AHeap) :KR:=@Prod.rec AExit (AAct × AHeap) (fun _=>KR) (block2 id) p
def cBlock (id:Nat) (b:ACode) :CF:=fun _ rec ro a h=>onKR (rec b ro a h) (block1 id) none
def cLoop (b:ACode) :CF:=fun _ rec ro a h=>seqF (rec b ro a h) (rec (.loop b) ro)
def cRange (_n:Nat) (f:AOpnd) (ps:List Pos) (assign body:ACode) :CF:=fun E rec ro a h =>
   match (match ro with
    | some l=>match PT.get l h.t with
     | some (.loop r)=>some (r.defers,a.ds,h)
     | _=>none
    | none=>match h.new (.dfr true) with
     | (r,h')=>some (r,.mark r :: a.ds,h')) with
   | some (dfr,ds,h1)=>match h1.new (.loop ⟨.ready,.none,a.t,ps,assign,body,dfr⟩) with
    | (l,h2)=>match (match f.ev a.t with
      | .func g first caps=>callF E rec g (first ++ (AVal.yld l :: caps)) h2
      | _=>none) with
     | some (_,h3)=>match PT.get l h3.t with
      | some (.loop r)=>match r.state with
       | .busy=>none
       | _=>match r.pending with
        | .none=>some (.normal,⟨a.t,ds⟩,h3.kill l)
        | .ret=>some (.ret,⟨a.t,ds⟩,h3.kill l)
        | .exit id=>some (.exit id,⟨a.t,ds⟩,h3.kill l)
      | _=>none
     | none=>none
   | none=>none
def cExit (id:Nat) :CF:=fun _ _ _ a h=>some (.exit id,a,h)
def cRet:CF:=fun _ _ _ a h=>some (.ret,a,h)
def cScope (n:Nat) (b:ACode) :CF:=fun _ rec ro a h=>scopeA rec b n b ro a h
def cGoto (l:Nat) :CF:=fun _ _ _ a h=>some (.goto l,a,h)
def cBad:CF:=fun _ _ _ _ _=>none
def codeF:ACode→Nat→CF:=@ACode.rec (fun _=>Nat→CF) (fun _=>cSkip) (fun o _=>cRegion o) (fun o _=>cDraw o) (fun x y _ _ _=>cSeq x y) (fun x c d _ _ _=>cCond x c d) (fun i b _ _=>cBlock i b) (fun b _ _=>cLoop b) (fun f p a b _ _ n=>cRange n f p a b) (fun i _=>cExit i) (fun _=>cRet) (fun b _ n=>cScope n b) (fun _ _=>cSkip) (fun l _=>cGoto l) (fun _=>cBad)
def evF (E:Env) (n:Nat) :Rec':=@Nat.rec (fun _=>Rec') (fun _ _ _ _=>none) (fun n ih c=>codeF c n E ih) n
end
end Go.Am
end

section
namespace Go.Am
theorem Pos.toNat_pos:∀ p:Pos,1≤p.toNat
 | .h=>by simp [Pos.toNat]
 | .o p=>by have:=p.toNat_pos; simp [Pos.toNat]; omega
 | .i p=>by simp [Pos.toNat]
theorem Pos.toNat_succ:∀ p:Pos,p.succ.toNat = p.toNat + 1
 | .h=>rfl
 | .o p=>rfl
 | .i p=>by have:=p.toNat_succ; simp [Pos.succ,Pos.toNat,this]; omega
theorem Pos.toNat_inj:∀ {p q:Pos},p.toNat = q.toNat→p = q
 | .h,.h,_=>rfl
 | .h,.o q,e=>by have:=q.toNat_pos; simp [Pos.toNat] at e; omega
 | .h,.i q,e=>by have:=q.toNat_pos; simp [Pos.toNat] at e; omega
 | .o p,.h,e=>by have:=p.toNat_pos; simp [Pos.toNat] at e; omega
 | .i p,.h,e=>by have:=p.toNat_pos; simp [Pos.toNat] at e; omega
 | .o p,.o q,e=>by simp only [Pos.toNat] at e; rw [Pos.toNat_inj (p:=p) (q:=q) (by omega)]
 | .i p,.i q,e=>by simp only [Pos.toNat] at e; rw [Pos.toNat_inj (p:=p) (q:=q) (by omega)]
 | .o p,.i q,e=>by simp only [Pos.toNat] at e; omega
 | .i p,.o q,e=>by simp only [Pos.toNat] at e; omega
theorem Pos.beq_eq:∀ {p q:Pos},Pos.beq p q = true ↔ p = q
 | .h,.h=>by simp [Pos.beq]
 | .h,.o q=>by simp [Pos.beq]
 | .h,.i q=>by simp [Pos.beq]
 | .o p,.h=>by simp [Pos.beq]
 | .i p,.h=>by simp [Pos.beq]
 | .o p,.o q=>by simp [Pos.beq,Pos.beq_eq (p:=p) (q:=q)]
 | .i p,.i q=>by simp [Pos.beq,Pos.beq_eq (p:=p) (q:=q)]
 | .o p,.i q=>by simp [Pos.beq]
 | .i p,.o q=>by simp [Pos.beq]
theorem Pos.beq_ne {p q:Pos} (h:Pos.beq p q = false) :p ≠ q:=fun e=>by
 rw [Pos.beq_eq.2 e] at h; cases h
theorem Pos.toNat_ofNatF:∀ (f n:Nat),1≤n→n < 2 ^ f→(Pos.ofNatF f n).toNat = n
 | 0,n,h1,h2=>by simp at h2; omega
 | f + 1,n,h1,h2=>by
  rw [Pos.ofNatF]
  cases hb:Nat.ble n 1 with
  | true=>have:=Nat.le_of_ble_eq_true hb; simp [Pos.toNat]; omega
  | false =>
   have hn:1 < n:=by
    rcases Nat.lt_or_ge 1 n with h | h
    ·exact h
    ·rw [Nat.ble_eq_true_of_le h] at hb; cases hb
   have hd:1≤n / 2:=by omega
   have hlt:n / 2 < 2 ^ f:=by rw [Nat.pow_succ] at h2; omega
   have ih:=Pos.toNat_ofNatF f (n / 2) hd hlt
   have e1:Nat.div n 2 = n / 2:=rfl
   have e2:Nat.mod n 2 = n % 2:=rfl
   simp only []
   cases hm:Nat.beq (Nat.mod n 2) 0 with
   | true =>
    have:=Nat.eq_of_beq_eq_true hm
    simp only [Pos.toNat,e1,ih]; omega
   | false =>
    have:Nat.mod n 2 ≠ 0:=fun e=>by rw [e] at hm; cases hm
    simp only [Pos.toNat,e1,ih]; omega
theorem Pos.toNat_ofNat {n:Nat} (h:n < 2 ^ 31) :(Pos.ofNat n).toNat = n + 1 :=
 Pos.toNat_ofNatF 32 (n + 1) (by omega) (by omega)
theorem Pos.ofNat_inj {m n:Nat} (hm:m < 2 ^ 31) (hn:n < 2 ^ 31) (h:Pos.ofNat m = Pos.ofNat n) :m = n:=by
 have:=congrArg Pos.toNat h
 rw [Pos.toNat_ofNat hm,Pos.toNat_ofNat hn] at this
 omega
section
variable {α:Type}
theorem PT.get_l (p:Pos) :PT.get p (.l:PT α) = none:=by cases p <;> rfl
theorem PT.get_one_same:∀ (p:Pos) (x:Option α),PT.get p (PT.one p x) = x
 | .h,x=>rfl
 | .o p,x=>by simp [PT.one,PT.get,PT.get_one_same p x]
 | .i p,x=>by simp [PT.one,PT.get,PT.get_one_same p x]
theorem PT.get_one_other:∀ (p q:Pos) (x:Option α),p ≠ q→PT.get q (PT.one p x) = none
 | .h,.h,x,h=>absurd rfl h
 | .h,.o q,x,_=>by simp [PT.one,PT.get,PT.get_l]
 | .h,.i q,x,_=>by simp [PT.one,PT.get,PT.get_l]
 | .o p,.h,x,_=>rfl
 | .i p,.h,x,_=>rfl
 | .o p,.o q,x,h=>by simp [PT.one,PT.get,PT.get_one_other p q x (fun e=>h (by rw [e]))]
 | .i p,.i q,x,h=>by simp [PT.one,PT.get,PT.get_one_other p q x (fun e=>h (by rw [e]))]
 | .o p,.i q,x,_=>by simp [PT.one,PT.get,PT.get_l]
 | .i p,.o q,x,_=>by simp [PT.one,PT.get,PT.get_l]
theorem PT.get_set_same:∀ (p:Pos) (x:Option α) (t:PT α),PT.get p (PT.set p x t) = x
 | .h,x,.l=>rfl
 | .o p,x,.l=>PT.get_one_same (.o p) x
 | .i p,x,.l=>PT.get_one_same (.i p) x
 | .h,x,.n a v b=>rfl
 | .o p,x,.n a v b=>by simp [PT.set,PT.get,PT.get_set_same p x a]
 | .i p,x,.n a v b=>by simp [PT.set,PT.get,PT.get_set_same p x b]
theorem PT.get_set_other:∀ (p q:Pos) (x:Option α) (t:PT α),p ≠ q→PT.get q (PT.set p x t) = PT.get q t
 | p,q,x,.l,h=>by
  have e:PT.set p x (.l:PT α) = PT.one p x:=by cases p <;> rfl
  rw [e,PT.get_one_other p q x h,PT.get_l]
 | .h,.h,x,.n a v b,h=>absurd rfl h
 | .h,.o q,x,.n a v b,_=>rfl
 | .h,.i q,x,.n a v b,_=>rfl
 | .o p,.h,x,.n a v b,_=>rfl
 | .i p,.h,x,.n a v b,_=>rfl
 | .o p,.o q,x,.n a v b,h=>by simp [PT.set,PT.get,PT.get_set_other p q x a (fun e=>h (by rw [e]))]
 | .i p,.i q,x,.n a v b,h=>by simp [PT.set,PT.get,PT.get_set_other p q x b (fun e=>h (by rw [e]))]
 | .o p,.i q,x,.n a v b,_=>rfl
 | .i p,.o q,x,.n a v b,_=>rfl
end
theorem lget_eq:∀ (l:List AVal) (n:Nat),lget l n = l[n]?
 | [],n=>by simp [lget]
 | a :: l,0=>rfl
 | a :: l,n + 1=>by simp [lget,lget_eq l n]
theorem ldrop_eq:∀ (n:Nat) (l l':List AVal),ldrop n l = some l'→l' = l.drop n∧n≤l.length
 | 0,l,l',h=>by simp [ldrop] at h; simp [h]
 | n + 1,[],l',h=>by simp [ldrop] at h
 | n + 1,a :: l,l',h=>by
  have:=ldrop_eq n l l' (by simpa [ldrop] using h)
  simp [this.1,this.2]
theorem ltake_eq:∀ (n:Nat) (l l':List AVal),ltake n l = some l'→l' = l.take n∧n≤l.length
 | 0,l,l',h=>by simp [ltake] at h; simp [h]
 | n + 1,[],l',h=>by simp [ltake] at h
 | n + 1,a :: l,l',h=>by
  simp only [ltake] at h
  cases hl:ltake n l with
  | none=>simp [hl] at h
  | some m =>
   rw [hl] at h
   have:=ltake_eq n l m hl
   simp at h
   rw [← h]
   simp [this.1,this.2]
theorem lsub_eq {l l':List AVal} {o n:Nat} (h:lsub l o n = some l') :l' = (l.drop o).take n∧o + n≤l.length:=by
 unfold lsub at h
 cases hd:ldrop o l with
 | none=>simp [hd] at h
 | some m =>
  rw [hd] at h
  have h1:=ldrop_eq o l m hd
  have h2:=ltake_eq n m l' h
  rw [h1.1] at h2
  refine ⟨h2.1,?_⟩
  have:=h2.2
  simp at this
  omega
theorem lover_eq:∀ (vs l l':List AVal),lover vs l = some l'→l' = vs ++ l.drop vs.length∧vs.length≤l.length
 | [],l,l',h=>by simp [lover] at h; simp [h]
 | v :: vs,[],l',h=>by simp [lover] at h
 | v :: vs,a :: l,l',h=>by
  simp only [lover] at h
  cases hl:lover vs l with
  | none=>simp [hl] at h
  | some m =>
   rw [hl] at h
   have:=lover_eq vs l m hl
   simp at h
   rw [← h]
   simp [this.1,this.2]
theorem lput_eq:∀ (l:List AVal) (o:Nat) (vs l':List AVal),lput l o vs = some l'→l' = l.take o ++ vs ++ l.drop (o + vs.length)∧o + vs.length≤l.length
 | l,0,vs,l',h=>by
  have:=lover_eq vs l l' (by simpa [lput] using h)
  simp [this.1,this.2]
 | [],o + 1,vs,l',h=>by simp [lput] at h
 | a :: l,o + 1,vs,l',h=>by
  simp only [lput] at h
  cases hl:lput l o vs with
  | none=>simp [hl] at h
  | some m =>
   rw [hl] at h
   have:=lput_eq l o vs m hl
   simp at h
   rw [← h,this.1]
   refine ⟨?_,by simp; omega⟩
   simp [show o + 1 + vs.length = (o + vs.length) + 1 by omega]
theorem lput_length {l l' vs:List AVal} {o:Nat} (h:lput l o vs = some l') :l'.length = l.length:=by
 obtain ⟨e,hl⟩:=lput_eq l o vs l' h
 subst e
 simp
 omega
theorem lput_get {l l' vs:List AVal} {o:Nat} (h:lput l o vs = some l') (i:Nat) :
  l'[i]? = if o≤i∧i < o + vs.length then vs[i - o]? else l[i]?:=by
 obtain ⟨e,hl⟩:=lput_eq l o vs l' h
 subst e
 by_cases h1:i < o
 ·rw [if_neg (by omega),List.append_assoc,List.getElem?_append_left (by simp; omega),List.getElem?_take_of_lt h1]
 ·by_cases h2:i < o + vs.length
  ·rw [if_pos ⟨by omega,h2⟩,List.append_assoc,List.getElem?_append_right (by simp; omega),List.getElem?_append_left (by simp; omega)]
   congr 1
   simp
   omega
  ·rw [if_neg (by omega),List.getElem?_append_right (by simp; omega),List.getElem?_drop]
   congr 1
   simp
   omega
end Go.Am
end
