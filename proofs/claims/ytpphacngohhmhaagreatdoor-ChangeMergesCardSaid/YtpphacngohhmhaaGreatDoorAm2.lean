/- Part of the proof: AmFast, AmTrie. -/
import Derived.Test.YtpphacngohhmhaaGreatDoorAm1
set_option linter.unusedSimpArgs false
set_option linter.unusedVariables false
section
namespace Go.Am
noncomputable section

/-! The same machine, written for the kernel: small constants, closed branches. -/
def getN {α : Type} (_ : PT α) (v : Option α) (_ : PT α) (iha ihb : Pos → Option α) (p : Pos) : Option α :=
  @Pos.rec (fun _ => Option α) v (fun q _ => iha q) (fun q _ => ihb q) p
def getF {α : Type} (t : PT α) : Pos → Option α :=
  @PT.rec α (fun _ => Pos → Option α) (fun _ => none) getN t
def setL {α : Type} (p : Pos) (x : Option α) : PT α := PT.one p x
def setN {α : Type} (a : PT α) (v : Option α) (b : PT α) (iha ihb : Pos → Option α → PT α) (p : Pos) : Option α → PT α :=
  @Pos.rec (fun _ => Option α → PT α) (fun x => .n a x b) (fun q _ x => .n (iha q x) v b) (fun q _ x => .n a v (ihb q x)) p
def setF {α : Type} (t : PT α) : Pos → Option α → PT α :=
  @PT.rec α (fun _ => Pos → Option α → PT α) setL setN t

abbrev KR := Option (AExit × AAct × AHeap)
abbrev KV := AVal → AHeap → KR

def orUndef (v : Option AVal) : AVal := @Option.rec AVal (fun _ => AVal) .undef (fun v => v) v
def tgetF (p : Pos) (t : PT AVal) : AVal := orUndef (getF t p)
def cstF (v : AVal) (_ : PT AVal) : AVal := v
def evO (x : AOpnd) : PT AVal → AVal := @AOpnd.rec (fun _ => PT AVal → AVal) tgetF cstF x

/-! Taking a value apart. -/
def onInt : AVal → (IntKind → Int → KR) → KR → KR := @AVal.rec (fun _ => (IntKind → Int → KR) → KR → KR) (fun _ => PUnit) (fun _ => fun _ d => d) (fun k n => fun f _ => f k n) (fun _ => fun _ d => d) (fun _ d => d) (fun _ _ => fun _ d => d) (fun _ d => d) (fun _ _ _ _ _ => fun _ d => d) (fun _ d => d) (fun _ => fun _ d => d) (fun _ d => d) (fun _ _ _ _ _ => fun _ d => d) (fun _ => fun _ d => d) (fun _ d => d) (fun _ _ _ => fun _ d => d) (fun _ _ => fun _ d => d) (fun _ _ => fun _ d => d) (fun _ d => d) PUnit.unit (fun _ _ _ _ => PUnit.unit)
def onBool : AVal → (Bool → KR) → KR → KR := @AVal.rec (fun _ => (Bool → KR) → KR → KR) (fun _ => PUnit) (fun b => fun f _ => f b) (fun _ _ => fun _ d => d) (fun _ => fun _ d => d) (fun _ d => d) (fun _ _ => fun _ d => d) (fun _ d => d) (fun _ _ _ _ _ => fun _ d => d) (fun _ d => d) (fun _ => fun _ d => d) (fun _ d => d) (fun _ _ _ _ _ => fun _ d => d) (fun _ => fun _ d => d) (fun _ d => d) (fun _ _ _ => fun _ d => d) (fun _ _ => fun _ d => d) (fun _ _ => fun _ d => d) (fun _ d => d) PUnit.unit (fun _ _ _ _ => PUnit.unit)
def onPtr : AVal → (Pos → Nat → KR) → KR → KR := @AVal.rec (fun _ => (Pos → Nat → KR) → KR → KR) (fun _ => PUnit) (fun _ => fun _ d => d) (fun _ _ => fun _ d => d) (fun _ => fun _ d => d) (fun _ d => d) (fun b o => fun f _ => f b o) (fun _ d => d) (fun _ _ _ _ _ => fun _ d => d) (fun _ d => d) (fun _ => fun _ d => d) (fun _ d => d) (fun _ _ _ _ _ => fun _ d => d) (fun _ => fun _ d => d) (fun _ d => d) (fun _ _ _ => fun _ d => d) (fun _ _ => fun _ d => d) (fun _ _ => fun _ d => d) (fun _ d => d) PUnit.unit (fun _ _ _ _ => PUnit.unit)
def onSl : AVal → (Pos → Nat → Nat → Nat → Nat → KR) → KR → KR := @AVal.rec (fun _ => (Pos → Nat → Nat → Nat → Nat → KR) → KR → KR) (fun _ => PUnit) (fun _ => fun _ d => d) (fun _ _ => fun _ d => d) (fun _ => fun _ d => d) (fun _ d => d) (fun _ _ => fun _ d => d) (fun _ d => d) (fun b o l c z => fun f _ => f b o l c z) (fun _ d => d) (fun _ => fun _ d => d) (fun _ d => d) (fun _ _ _ _ _ => fun _ d => d) (fun _ => fun _ d => d) (fun _ d => d) (fun _ _ _ => fun _ d => d) (fun _ _ => fun _ d => d) (fun _ _ => fun _ d => d) (fun _ d => d) PUnit.unit (fun _ _ _ _ => PUnit.unit)
def onCells : AObj → (List AVal → Bool → Bool → KR) → KR → KR :=
  @AObj.rec (fun _ => (List AVal → Bool → Bool → KR) → KR → KR) (fun l a b f _ => f l a b) (fun _ _ d => d) (fun _ _ d => d) (fun _ _ d => d) (fun _ _ d => d) (fun _ _ d => d)
def onVal : Option AVal → (AVal → KR) → KR → KR := @Option.rec AVal (fun _ => (AVal → KR) → KR → KR) (fun _ d => d) (fun a f _ => f a)
def onObj : Option AObj → (AObj → KR) → KR → KR := @Option.rec AObj (fun _ => (AObj → KR) → KR → KR) (fun _ d => d) (fun a f _ => f a)
def onList : Option (List AVal) → (List AVal → KR) → KR → KR := @Option.rec (List AVal) (fun _ => (List AVal → KR) → KR → KR) (fun _ d => d) (fun a f _ => f a)
def onNat : Option Nat → (Nat → KR) → KR → KR := @Option.rec Nat (fun _ => (Nat → KR) → KR → KR) (fun _ d => d) (fun a f _ => f a)
def onKR : KR → (AExit × AAct × AHeap → KR) → KR → KR := @Option.rec (AExit × AAct × AHeap) (fun _ => (AExit × AAct × AHeap → KR) → KR → KR) (fun _ d => d) (fun a f _ => f a)
def onGuard : Option (Pos × Bool) → (Pos × Bool → KR) → KR → KR := @Option.rec (Pos × Bool) (fun _ => (Pos × Bool → KR) → KR → KR) (fun _ d => d) (fun a f _ => f a)
def isScalF : AVal → Bool := @AVal.rec (fun _ => Bool) (fun _ => PUnit) (fun _ => true) (fun _ _ => true) (fun _ => true) (true) (fun _ _ => true) (true) (fun _ _ _ _ _ => true) (true) (fun _ => true) (true) (fun _ _ _ _ _ => true) (fun _ => true) (true) (fun _ _ _ => true) (fun _l _i1 => false) (fun _l _i1 => false) (false) PUnit.unit (fun _ _ _ _ => PUnit.unit)
def ifB : Bool → KR → KR → KR := @Bool.rec (fun _ => KR → KR → KR) (fun _ d => d) (fun a _ => a)

/-- A number laid down worked out. -/
def fNat : Nat → (Nat → KR) → KR := @Nat.rec (fun _ => (Nat → KR) → KR) (fun k => k 0) (fun m _ k => k (Nat.succ m))
def fInt : Int → (Int → KR) → KR := @Int.rec (fun _ => (Int → KR) → KR) (fun m k => fNat m fun m => k (.ofNat m)) (fun m k => fNat m fun m => k (.negSucc m))
def kInt (q : IntKind) (n : Int) (k : KV) (h : AHeap) : KR := fInt n fun m => k (.int q m) h

/-! Arithmetic. -/
def addN (k : IntKind) (a b : Nat) : Int := wrapI k (.ofNat (Nat.add a b))
def binI (op : BinOp) (k : IntKind) (x y : Int) : Option AVal := intBin op k x y
def cmpR (b : Bool) (k : KV) (h : AHeap) : KR := ifB b (k (.bool true) h) (k (.bool false) h)
def iAdd (q : IntKind) (x y : Int) (k : KV) (h : AHeap) : KR := kInt q (wrapI q (addI x y)) k h
def iSub (q : IntKind) (x y : Int) (k : KV) (h : AHeap) : KR := kInt q (wrapI q (subI x y)) k h
def iLss (_ : IntKind) (x y : Int) (k : KV) (h : AHeap) : KR := cmpR (ltI x y) k h
def iLeq (_ : IntKind) (x y : Int) (k : KV) (h : AHeap) : KR := cmpR (!(ltI y x)) k h
def iGtr (_ : IntKind) (x y : Int) (k : KV) (h : AHeap) : KR := cmpR (ltI y x) k h
def iGeq (_ : IntKind) (x y : Int) (k : KV) (h : AHeap) : KR := cmpR (!(ltI x y)) k h
def iEql (_ : IntKind) (x y : Int) (k : KV) (h : AHeap) : KR := cmpR (eqI x y) k h
def iNeq (_ : IntKind) (x y : Int) (k : KV) (h : AHeap) : KR := cmpR (!(eqI x y)) k h
def kV (v : AVal) (k : KV) (h : AHeap) : KR := forceV v fun v => k v h
def kOV : Option AVal → KV → AHeap → KR := @Option.rec AVal (fun _ => KV → AHeap → KR) (fun _ _ => none) kV
def iRest (op : BinOp) (q : IntKind) (x y : Int) (k : KV) (h : AHeap) : KR := kOV (intBin op q x y) k h
def intF : BinOp → IntKind → Int → Int → KV → AHeap → KR :=
  @BinOp.rec (fun _ => IntKind → Int → Int → KV → AHeap → KR) iAdd iSub (iRest .mul) (iRest .quo) (iRest .rem) (iRest .and) (iRest .or) (iRest .xor) (iRest .shl) (iRest .shr) (iRest .andNot)
    iEql iNeq iLss iLeq iGtr iGeq
def isShift : BinOp → Bool := @BinOp.rec (fun _ => Bool) false false false false false false false false true true false false false false false false false
def bin2 (op : BinOp) (_vx vy : AVal) (k : KV) (h : AHeap) (q : IntKind) (x : Int) : KR :=
  onInt vy (fun q' y => ifB (kbeq q q') (intF op q x y k h) none) none
def binF (op : BinOp) (vx vy : AVal) (k : KV) (h : AHeap) : KR :=
  ifB (isShift op) (kOV (binOpA op vx vy) k h) (onInt vx (bin2 op vx vy k h) (kOV (binOpA op vx vy) k h))

/-! Operations. -/
abbrev QF := PT AVal → AHeap → KV → KR
def qMove (x : AOpnd) : QF := fun t h k => k (evO x t) h
def qPick (c a b : AOpnd) : QF := fun t h k => onBool (evO c t) (fun z => ifB z (k (evO a t) h) (k (evO b t) h)) none
def qLoad1b (o : Nat) (h : AHeap) (k : KV) (l : List AVal) (_ _ : Bool) : KR := onVal (lget l o) (fun v => k v h) none
def qLoad1a (h : AHeap) (k : KV) (b : Pos) (o : Nat) : KR := onObj (getF h.t b) (fun x => onCells x (qLoad1b o h k) none) none
def qLoad1 (x : AOpnd) : QF := fun t h k => onPtr (evO x t) (qLoad1a h k) none
def qFieldAddr (off : Nat) (x : AOpnd) : QF := fun t h k => onPtr (evO x t) (fun b o => fNat (Nat.add o off) fun o => k (.ptr b o) h) none
def qBin (op : BinOp) (x y : AOpnd) : QF := fun t h k => binF op (evO x t) (evO y t) k h
def qNil (x : AOpnd) : QF := fun t h k => onPtr (evO x t) (fun b o => k (.ptr b o) h) (kOV (quiet t h (.nilCheck x)) k h)
def qIdxS2 (sz : Nat) (h : AHeap) (k : KV) (b : Pos) (o len : Nat) (i : Nat) : KR := ifB (Nat.blt i len) (fNat (Nat.add o (Nat.mul i sz)) fun o => k (.ptr b o) h) none
def qIdxS1 (sz : Nat) (vi : AVal) (h : AHeap) (k : KV) (b : Pos) (o len _cap _s : Nat) : KR := onNat (natOf vi) (qIdxS2 sz h k b o len) none
def qIdxS (sz : Nat) (x i : AOpnd) : QF := fun t h k => onSl (evO x t) (qIdxS1 sz (evO i t) h k) none
def qIdxA1 (n sz : Nat) (vi : AVal) (h : AHeap) (k : KV) (b : Pos) (o : Nat) : KR := onNat (natOf vi) (qIdxS2 sz h k b o n) none
def qIdxA (n sz : Nat) (x i : AOpnd) : QF := fun t h k => onPtr (evO x t) (qIdxA1 n sz (evO i t) h k) none
def qLen (n : Nat) (x : AOpnd) : QF := fun t h k => ifB (Nat.beq n 1) (onSl (evO x t) (fun _ _ n _ _ => k (.int .i64 (.ofNat n)) h) (kOV (quiet t h (.len n x)) k h)) (kOV (quiet t h (.len n x)) k h)
def qConvI (q : IntKind) (x : AOpnd) : QF := fun t h k => onInt (evO x t) (fun _ n => kInt q (wrapI q n) k h) none
def kRes2 : AVal × AHeap → KV → KR := @Prod.rec AVal AHeap (fun _ => KV → KR) (fun v h k => forceV v fun v => k v h)
def kRes : ARes → KV → KR := @Option.rec (AVal × AHeap) (fun _ => KV → KR) (fun _ => none) kRes2
def qSlow (op : AOp) : QF := fun t h k => kRes (write t h op) k
def qStore3 (h : AHeap) (k : KV) (b : Pos) (o : Nat) (y : AVal) (l : List AVal) (op ro : Bool) : KR :=
  ifB ro none (onList (lset l o y) (fun l' => k .undef (⟨setF h.t b (some (.cells l' op false)), h.nx⟩)) none)
def qStore2 (h : AHeap) (k : KV) (y : AVal) (b : Pos) (o : Nat) : KR := onObj (getF h.t b) (fun x => onCells x (qStore3 h k b o y) none) none
def qStore1 (n : Nat) (x y : AOpnd) (t : PT AVal) (h : AHeap) (k : KV) : KR :=
  ifB (isScalF (evO y t)) (onPtr (evO x t) (qStore2 h k (evO y t)) none) (kRes (write t h (.store n x y)) k)
def qStore (n : Nat) (x y : AOpnd) : QF := fun t h k => ifB (Nat.beq n 1) (qStore1 n x y t h k) (kRes (write t h (.store n x y)) k)
def qConv : AConv → AOpnd → QF := @AConv.rec (fun _ => AOpnd → QF) qConvI (fun x => qSlow (.conv .strBytes x)) (fun x => qSlow (.conv .bytesStr x)) (fun x => qSlow (.conv .same x)) (fun x => qSlow (.conv .mark x))

abbrev Rec' := ACode → Option Pos → AAct → AHeap → KR
abbrev LF := List ADef → PT AVal → AHeap → KR
abbrev XF := Env → Rec' → Option Pos → LF → List ADef → PT AVal → AHeap → KR
def putD : Option Pos → AVal → PT AVal → PT AVal := @Option.rec Pos (fun _ => AVal → PT AVal → PT AVal) (fun _ t => t) (fun p v t => setF t p (some v))
def afterF (d : Option Pos) (next : LF) (ds : List ADef) (t : PT AVal) (v : AVal) (h : AHeap) : KR := next ds (putD d v t) h
def evsF (l : List AOpnd) : PT AVal → List AVal := @List.rec AOpnd (fun _ => PT AVal → List AVal) (fun _ => []) (fun x _ ih t => evO x t :: ih t) l
def xCallF (f : FuncId) (args : List AOpnd) : XF := fun E rec d next ds t h => kRes (callA E rec f (evsF args t) h) (afterF d next ds t)
def xCallV (f : AOpnd) (args : List AOpnd) : XF := fun E rec d next ds t h => kRes (callVal E rec (evO f t) (evsF args t) h) (afterF d next ds t)
def xQ (q : QF) : XF := fun _ _ d next ds t h => q t h (afterF d next ds t)
def xMove (x : AOpnd) : XF := fun _ _ d next ds t h => next ds (putD d (evO x t) t) h
def xDefer (f : AOpnd) (args : List AOpnd) : XF := fun _ _ d next ds t h =>
  match f.ev t with
  | .func g first caps => next (.fn g (first ++ (evs t args ++ caps)) :: ds) (tput t d .undef) h
  | _ => none
def xBad : XF := fun _ _ _ _ _ _ _ => none

def execF : AOp → XF := @AOp.rec (fun _ => XF)
  xMove (fun c a b => xQ (qPick c a b)) (fun z => xQ (qSlow (.alloc z))) (fun x => xQ (qSlow (.box x))) (fun z ps => xQ (qSlow (.build z ps))) (fun z l ps => xQ (qSlow (.buildSlice z l ps)))
  (fun x => xQ (qLoad1 x)) (fun n x => xQ (qSlow (.loadN n x))) (fun n x y => xQ (qStore n x y)) (fun x => xQ (qNil x)) (fun op x y => xQ (qBin op x y)) (fun g n x y => xQ (qSlow (.eq g n x y)))
  (fun op x => xQ (qSlow (.un op x))) (fun c x => xQ (qConv c x)) (fun off x => xQ (qFieldAddr off x)) (fun sz x i => xQ (qIdxS sz x i)) (fun n sz x i => xQ (qIdxA n sz x i))
  (fun o x => xQ (qSlow (.field1 o x))) (fun o n x => xQ (qSlow (.fieldN o n x))) (fun x i => xQ (qSlow (.idxStr x i))) (fun n x i => xQ (qSlow (.idxArr n x i))) (fun k x l h m => xQ (qSlow (.slice k x l h m)))
  (fun n x => xQ (qSlow (.s2ap n x))) (fun t x => xQ (qSlow (.mkI t x))) (fun f a b => xQ (qSlow (.mkF f a b))) (xQ (qSlow .mkMap)) (fun z b l c => xQ (qSlow (.mkSlice z b l c))) (fun q z x k ok => xQ (qSlow (.lookup q z x k ok)))
  (fun q m k v => xQ (qSlow (.mapUpdate q m k v))) (fun x i => xQ (qSlow (.extract x i))) xCallF xCallV (fun n x => xQ (qLen n x)) (fun a b s x => xQ (qSlow (.append a b s x))) (fun s d x => xQ (qSlow (.copy s d x))) (fun m xs => xQ (qSlow (.mm m xs)))
  (fun z x => xQ (qSlow (.clear z x))) xDefer xBad

/-! A row of operations. -/
def guardF (E : Env) (rec : Rec') (d : Option Pos) (op : AOp) (next : LF) (ds : List ADef) (t : PT AVal) (h : AHeap) (g : Pos × Bool) : KR :=
  @Option.rec Bool (fun _ => KR) none (fun b => ifB b (execF op E rec d next ds t h) (next ds (putD d .undef t) h)) (wantedA t (some g))
def operF (E : Env) (rec : Rec') (next : LF) (ds : List ADef) (t : PT AVal) (h : AHeap) (d : Option Pos) (op : AOp) (g : Option (Pos × Bool)) : KR :=
  onGuard g (guardF E rec d op next ds t h) (execF op E rec d next ds t h)
def onOper : AOper → (Option Pos → AOp → Option (Pos × Bool) → KR) → KR := @AOper.rec (fun _ => (Option Pos → AOp → Option (Pos × Bool) → KR) → KR) (fun d o g f => f d o g)
def stepF (E : Env) (rec : Rec') (o : AOper) (next : LF) : LF := fun ds t h => onOper o (operF E rec next ds t h)
def endF : LF := fun ds t h => some (.normal, ⟨t, ds⟩, h)
def opsF (E : Env) (rec : Rec') (l : List AOper) : LF := @List.rec AOper (fun _ => LF) endF (fun o _ ih => stepF E rec o ih) l

abbrev CF := Env → Rec' → Option Pos → AAct → AHeap → KR
def isNormal : AExit → KR → KR → KR := @AExit.rec (fun _ => KR → KR → KR) (fun f _ => f) (fun _ d => d) (fun _ _ d => d) (fun _ _ d => d)
def seq2 (next : AAct → AHeap → KR) (e : AExit) (p : AAct × AHeap) : KR :=
  @Prod.rec AAct AHeap (fun _ => KR) (fun a h => isNormal e (next a h) (some (e, a, h))) p
def seq1 (next : AAct → AHeap → KR) (p : AExit × AAct × AHeap) : KR := @Prod.rec AExit (AAct × AHeap) (fun _ => KR) (seq2 next) p
def seqF (r : KR) (next : AAct → AHeap → KR) : KR := @Option.rec (AExit × AAct × AHeap) (fun _ => (AAct → AHeap → KR) → KR) (fun _ => none) (fun p next => seq1 next p) r next
def cSkip : CF := fun _ _ _ a h => some (.normal, a, h)
def onAct : AAct → (PT AVal → List ADef → KR) → KR := @AAct.rec (fun _ => (PT AVal → List ADef → KR) → KR) (fun t ds f => f t ds)
def cRegion (ops : List AOper) : CF := fun E rec _ a h => onAct a (fun t ds => opsF E rec ops ds t h)
def cDraw (ops : List ADraw) : CF := fun E rec _ a h => drawA E rec a.ds ops a.t h []
def cSeq (x y : ACode) : CF := fun _ rec ro a h => seqF (rec x ro a h) (rec y ro)
def actT : AAct → PT AVal := @AAct.rec (fun _ => PT AVal) (fun t _ => t)
def cCond (x : AOpnd) (c1 c2 : ACode) : CF := fun _ rec ro a h => onBool (evO x (actT a)) (fun b => ifB b (rec c1 ro a h) (rec c2 ro a h)) none
def onExit : AExit → (Nat → KR) → KR → KR := @AExit.rec (fun _ => (Nat → KR) → KR → KR) (fun _ d => d) (fun _ d => d) (fun id f _ => f id) (fun _ _ d => d)
def block3 (id : Nat) (e : AExit) (a : AAct) (h : AHeap) : KR :=
  onExit e (fun id' => ifB (Nat.beq id id') (some (.normal, a, h)) (some (.exit id', a, h))) (some (e, a, h))
def block2 (id : Nat) (e : AExit) (p : AAct × AHeap) : KR := @Prod.rec AAct AHeap (fun _ => KR) (block3 id e) p
def block1 (id : Nat) (p : AExit × AAct × AHeap) : KR := @Prod.rec AExit (AAct × AHeap) (fun _ => KR) (block2 id) p
def cBlock (id : Nat) (b : ACode) : CF := fun _ rec ro a h => onKR (rec b ro a h) (block1 id) none
def cLoop (b : ACode) : CF := fun _ rec ro a h => seqF (rec b ro a h) (rec (.loop b) ro)
def cSlow (_c : ACode) : CF := fun _ _ _ _ _ => none
def cRange (_n : Nat) (f : AOpnd) (ps : List Pos) (assign body : ACode) : CF := fun E rec ro a h =>
      match (match ro with
        | some l => match PT.get l h.t with
          | some (.loop r) => some (r.defers, a.ds, h)
          | _ => none
        | none => match h.new (.dfr true) with
          | (r, h') => some (r, .mark r :: a.ds, h')) with
      | some (dfr, ds, h1) => match h1.new (.loop ⟨.ready, .none, a.t, ps, assign, body, dfr⟩) with
        | (l, h2) => match (match f.ev a.t with
            | .func g first caps => callF E rec g (first ++ (AVal.yld l :: caps)) h2
            | _ => none) with
          | some (_, h3) => match PT.get l h3.t with
            | some (.loop r) => match r.state with
              | .busy => none
              | _ => match r.pending with
                | .none => some (.normal, ⟨a.t, ds⟩, h3.kill l)
                | .ret => some (.ret, ⟨a.t, ds⟩, h3.kill l)
                | .exit id => some (.exit id, ⟨a.t, ds⟩, h3.kill l)
            | _ => none
          | none => none
      | none => none
def cExit (id : Nat) : CF := fun _ _ _ a h => some (.exit id, a, h)
def cRet : CF := fun _ _ _ a h => some (.ret, a, h)
def cScope (n : Nat) (b : ACode) : CF := fun _ rec ro a h => scopeA rec b n b ro a h
def cGoto (l : Nat) : CF := fun _ _ _ a h => some (.goto l, a, h)
def cBad : CF := fun _ _ _ _ _ => none
def codeF : ACode → Nat → CF := @ACode.rec (fun _ => Nat → CF) (fun _ => cSkip) (fun o _ => cRegion o) (fun o _ => cDraw o) (fun x y _ _ _ => cSeq x y) (fun x c d _ _ _ => cCond x c d) (fun i b _ _ => cBlock i b) (fun b _ _ => cLoop b) (fun f p a b _ _ n => cRange n f p a b) (fun i _ => cExit i) (fun _ => cRet) (fun b _ n => cScope n b) (fun _ _ => cSkip) (fun l _ => cGoto l) (fun _ => cBad)
def evF (E : Env) (n : Nat) : Rec' := @Nat.rec (fun _ => Rec') (fun _ _ _ _ => none) (fun n ih c => codeF c n E ih) n
def runF (E : Env) (fuel : Nat) (f : FuncId) (args : List AVal) (h : AHeap) : ARes := callA E (evF E fuel) f args h
end
end Go.Am
end

section
namespace Go.Am

theorem Pos.toNat_pos : ∀ p : Pos, 1 ≤ p.toNat
  | .h => by simp [Pos.toNat]
  | .o p => by have := p.toNat_pos; simp [Pos.toNat]; omega
  | .i p => by simp [Pos.toNat]
theorem Pos.toNat_succ : ∀ p : Pos, p.succ.toNat = p.toNat + 1
  | .h => rfl
  | .o p => rfl
  | .i p => by have := p.toNat_succ; simp [Pos.succ, Pos.toNat, this]; omega
theorem Pos.toNat_inj : ∀ {p q : Pos}, p.toNat = q.toNat → p = q
  | .h, .h, _ => rfl
  | .h, .o q, e => by have := q.toNat_pos; simp [Pos.toNat] at e; omega
  | .h, .i q, e => by have := q.toNat_pos; simp [Pos.toNat] at e; omega
  | .o p, .h, e => by have := p.toNat_pos; simp [Pos.toNat] at e; omega
  | .i p, .h, e => by have := p.toNat_pos; simp [Pos.toNat] at e; omega
  | .o p, .o q, e => by simp only [Pos.toNat] at e; rw [Pos.toNat_inj (p := p) (q := q) (by omega)]
  | .i p, .i q, e => by simp only [Pos.toNat] at e; rw [Pos.toNat_inj (p := p) (q := q) (by omega)]
  | .o p, .i q, e => by simp only [Pos.toNat] at e; omega
  | .i p, .o q, e => by simp only [Pos.toNat] at e; omega
theorem Pos.beq_eq : ∀ {p q : Pos}, Pos.beq p q = true ↔ p = q
  | .h, .h => by simp [Pos.beq]
  | .h, .o q => by simp [Pos.beq]
  | .h, .i q => by simp [Pos.beq]
  | .o p, .h => by simp [Pos.beq]
  | .i p, .h => by simp [Pos.beq]
  | .o p, .o q => by simp [Pos.beq, Pos.beq_eq (p := p) (q := q)]
  | .i p, .i q => by simp [Pos.beq, Pos.beq_eq (p := p) (q := q)]
  | .o p, .i q => by simp [Pos.beq]
  | .i p, .o q => by simp [Pos.beq]
theorem Pos.beq_ne {p q : Pos} (h : Pos.beq p q = false) : p ≠ q := fun e => by
  rw [Pos.beq_eq.2 e] at h; cases h
theorem Pos.toNat_ofNatF : ∀ (f n : Nat), 1 ≤ n → n < 2 ^ f → (Pos.ofNatF f n).toNat = n
  | 0, n, h1, h2 => by simp at h2; omega
  | f + 1, n, h1, h2 => by
    rw [Pos.ofNatF]
    cases hb : Nat.ble n 1 with
    | true => have := Nat.le_of_ble_eq_true hb; simp [Pos.toNat]; omega
    | false =>
      have hn : 1 < n := by
        rcases Nat.lt_or_ge 1 n with h | h
        · exact h
        · rw [Nat.ble_eq_true_of_le h] at hb; cases hb
      have hd : 1 ≤ n / 2 := by omega
      have hlt : n / 2 < 2 ^ f := by rw [Nat.pow_succ] at h2; omega
      have ih := Pos.toNat_ofNatF f (n / 2) hd hlt
      have e1 : Nat.div n 2 = n / 2 := rfl
      have e2 : Nat.mod n 2 = n % 2 := rfl
      simp only []
      cases hm : Nat.beq (Nat.mod n 2) 0 with
      | true =>
        have := Nat.eq_of_beq_eq_true hm
        simp only [Pos.toNat, e1, ih]; omega
      | false =>
        have : Nat.mod n 2 ≠ 0 := fun e => by rw [e] at hm; cases hm
        simp only [Pos.toNat, e1, ih]; omega
theorem Pos.toNat_ofNat {n : Nat} (h : n < 2 ^ 31) : (Pos.ofNat n).toNat = n + 1 :=
  Pos.toNat_ofNatF 32 (n + 1) (by omega) (by omega)
theorem Pos.ofNat_inj {m n : Nat} (hm : m < 2 ^ 31) (hn : n < 2 ^ 31) (h : Pos.ofNat m = Pos.ofNat n) : m = n := by
  have := congrArg Pos.toNat h
  rw [Pos.toNat_ofNat hm, Pos.toNat_ofNat hn] at this
  omega

section
variable {α : Type}
theorem PT.get_l (p : Pos) : PT.get p (.l : PT α) = none := by cases p <;> rfl
theorem PT.get_one_same : ∀ (p : Pos) (x : Option α), PT.get p (PT.one p x) = x
  | .h, x => rfl
  | .o p, x => by simp [PT.one, PT.get, PT.get_one_same p x]
  | .i p, x => by simp [PT.one, PT.get, PT.get_one_same p x]
theorem PT.get_one_other : ∀ (p q : Pos) (x : Option α), p ≠ q → PT.get q (PT.one p x) = none
  | .h, .h, x, h => absurd rfl h
  | .h, .o q, x, _ => by simp [PT.one, PT.get, PT.get_l]
  | .h, .i q, x, _ => by simp [PT.one, PT.get, PT.get_l]
  | .o p, .h, x, _ => rfl
  | .i p, .h, x, _ => rfl
  | .o p, .o q, x, h => by simp [PT.one, PT.get, PT.get_one_other p q x (fun e => h (by rw [e]))]
  | .i p, .i q, x, h => by simp [PT.one, PT.get, PT.get_one_other p q x (fun e => h (by rw [e]))]
  | .o p, .i q, x, _ => by simp [PT.one, PT.get, PT.get_l]
  | .i p, .o q, x, _ => by simp [PT.one, PT.get, PT.get_l]
theorem PT.get_set_same : ∀ (p : Pos) (x : Option α) (t : PT α), PT.get p (PT.set p x t) = x
  | .h, x, .l => rfl
  | .o p, x, .l => PT.get_one_same (.o p) x
  | .i p, x, .l => PT.get_one_same (.i p) x
  | .h, x, .n a v b => rfl
  | .o p, x, .n a v b => by simp [PT.set, PT.get, PT.get_set_same p x a]
  | .i p, x, .n a v b => by simp [PT.set, PT.get, PT.get_set_same p x b]
theorem PT.get_set_other : ∀ (p q : Pos) (x : Option α) (t : PT α), p ≠ q → PT.get q (PT.set p x t) = PT.get q t
  | p, q, x, .l, h => by
    have e : PT.set p x (.l : PT α) = PT.one p x := by cases p <;> rfl
    rw [e, PT.get_one_other p q x h, PT.get_l]
  | .h, .h, x, .n a v b, h => absurd rfl h
  | .h, .o q, x, .n a v b, _ => rfl
  | .h, .i q, x, .n a v b, _ => rfl
  | .o p, .h, x, .n a v b, _ => rfl
  | .i p, .h, x, .n a v b, _ => rfl
  | .o p, .o q, x, .n a v b, h => by simp [PT.set, PT.get, PT.get_set_other p q x a (fun e => h (by rw [e]))]
  | .i p, .i q, x, .n a v b, h => by simp [PT.set, PT.get, PT.get_set_other p q x b (fun e => h (by rw [e]))]
  | .o p, .i q, x, .n a v b, _ => rfl
  | .i p, .o q, x, .n a v b, _ => rfl
end

/-! Lists of cells. -/
theorem lget_eq : ∀ (l : List AVal) (n : Nat), lget l n = l[n]?
  | [], n => by simp [lget]
  | a :: l, 0 => rfl
  | a :: l, n + 1 => by simp [lget, lget_eq l n]
theorem ldrop_eq : ∀ (n : Nat) (l l' : List AVal), ldrop n l = some l' → l' = l.drop n ∧ n ≤ l.length
  | 0, l, l', h => by simp [ldrop] at h; simp [h]
  | n + 1, [], l', h => by simp [ldrop] at h
  | n + 1, a :: l, l', h => by
    have := ldrop_eq n l l' (by simpa [ldrop] using h)
    simp [this.1, this.2]
theorem ltake_eq : ∀ (n : Nat) (l l' : List AVal), ltake n l = some l' → l' = l.take n ∧ n ≤ l.length
  | 0, l, l', h => by simp [ltake] at h; simp [h]
  | n + 1, [], l', h => by simp [ltake] at h
  | n + 1, a :: l, l', h => by
    simp only [ltake] at h
    cases hl : ltake n l with
    | none => simp [hl] at h
    | some m =>
      rw [hl] at h
      have := ltake_eq n l m hl
      simp at h
      rw [← h]
      simp [this.1, this.2]
theorem lsub_eq {l l' : List AVal} {o n : Nat} (h : lsub l o n = some l') : l' = (l.drop o).take n ∧ o + n ≤ l.length := by
  unfold lsub at h
  cases hd : ldrop o l with
  | none => simp [hd] at h
  | some m =>
    rw [hd] at h
    have h1 := ldrop_eq o l m hd
    have h2 := ltake_eq n m l' h
    rw [h1.1] at h2
    refine ⟨h2.1, ?_⟩
    have := h2.2
    simp at this
    omega
theorem lover_eq : ∀ (vs l l' : List AVal), lover vs l = some l' → l' = vs ++ l.drop vs.length ∧ vs.length ≤ l.length
  | [], l, l', h => by simp [lover] at h; simp [h]
  | v :: vs, [], l', h => by simp [lover] at h
  | v :: vs, a :: l, l', h => by
    simp only [lover] at h
    cases hl : lover vs l with
    | none => simp [hl] at h
    | some m =>
      rw [hl] at h
      have := lover_eq vs l m hl
      simp at h
      rw [← h]
      simp [this.1, this.2]
theorem lput_eq : ∀ (l : List AVal) (o : Nat) (vs l' : List AVal), lput l o vs = some l' → l' = l.take o ++ vs ++ l.drop (o + vs.length) ∧ o + vs.length ≤ l.length
  | l, 0, vs, l', h => by
    have := lover_eq vs l l' (by simpa [lput] using h)
    simp [this.1, this.2]
  | [], o + 1, vs, l', h => by simp [lput] at h
  | a :: l, o + 1, vs, l', h => by
    simp only [lput] at h
    cases hl : lput l o vs with
    | none => simp [hl] at h
    | some m =>
      rw [hl] at h
      have := lput_eq l o vs m hl
      simp at h
      rw [← h, this.1]
      refine ⟨?_, by simp; omega⟩
      simp [show o + 1 + vs.length = (o + vs.length) + 1 by omega]
theorem lput_length {l l' vs : List AVal} {o : Nat} (h : lput l o vs = some l') : l'.length = l.length := by
  obtain ⟨e, hl⟩ := lput_eq l o vs l' h
  subst e
  simp
  omega
theorem lput_get {l l' vs : List AVal} {o : Nat} (h : lput l o vs = some l') (i : Nat) :
    l'[i]? = if o ≤ i ∧ i < o + vs.length then vs[i - o]? else l[i]? := by
  obtain ⟨e, hl⟩ := lput_eq l o vs l' h
  subst e
  by_cases h1 : i < o
  · rw [if_neg (by omega), List.append_assoc, List.getElem?_append_left (by simp; omega), List.getElem?_take_of_lt h1]
  · by_cases h2 : i < o + vs.length
    · rw [if_pos ⟨by omega, h2⟩, List.append_assoc, List.getElem?_append_right (by simp; omega), List.getElem?_append_left (by simp; omega)]
      congr 1
      simp
      omega
    · rw [if_neg (by omega), List.getElem?_append_right (by simp; omega), List.getElem?_drop]
      congr 1
      simp
      omega
end Go.Am
end
