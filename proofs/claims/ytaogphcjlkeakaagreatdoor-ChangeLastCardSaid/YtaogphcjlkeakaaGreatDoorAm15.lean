/- Part of the proof: AmFastEq, AmFastEq2. -/
import Derived.Test.YtaogphcjlkeakaaGreatDoorAm1
import Derived.Test.YtaogphcjlkeakaaGreatDoorAm14
set_option linter.unusedSimpArgs false
set_option linter.unusedVariables false
section
namespace Go.Am
theorem getF_eq {α:Type} (t:PT α) (p:Pos) :getF t p = PT.get p t:=by
 induction t generalizing p with
 | l=>cases p <;> rfl
 | n a v b iha ihb=>cases p with
  | h=>rfl
  | o p=>exact iha p
  | i p=>exact ihb p
theorem setF_eq {α:Type} (t:PT α) (p:Pos) (x:Option α) :setF t p x = PT.set p x t:=by
 induction t generalizing p with
 | l=>cases p <;> rfl
 | n a v b iha ihb=>cases p with
  | h=>rfl
  | o p=>show PT.n (setF a p x) v b = _; rw [iha p]; rfl
  | i p=>show PT.n a v (setF b p x) = _; rw [ihb p]; rfl
theorem evO_eq (x:AOpnd) (t:PT AVal) :evO x t = x.ev t:=by
 cases x with
 | t p =>
  show orUndef (getF t p) = tget t p
  rw [getF_eq]
  unfold tget
  cases PT.get p t <;> rfl
 | c v=>rfl
theorem fNat_eq (n:Nat) (k:Nat→KR) :fNat n k = k n:=by cases n <;> rfl
theorem fInt_eq (n:Int) (k:Int→KR) :fInt n k = k n:=by
 cases n with
 | ofNat m=>show fNat m _ = _; rw [fNat_eq]
 | negSucc m=>show fNat m _ = _; rw [fNat_eq]
theorem kInt_eq (q:IntKind) (n:Int) (k:KV) (h:AHeap) :kInt q n k h = k (.int q n) h:=fInt_eq _ _
def goQ (r:Option AVal) (k:KV) (h:AHeap) :KR:=match r with | some v=>k v h | none=>none
def goR (r:ARes) (k:KV) :KR:=match r with | some (v,h)=>k v h | none=>none
theorem kOV_eq (r:Option AVal) (k:KV) (h:AHeap) :kOV r k h = goQ r k h:=by
 cases r with
 | none=>rfl
 | some v=>show forceV v (fun v=>k v h) = k v h; rw [forceV_eq]
theorem kRes_eq (r:ARes) (k:KV) :kRes r k = goR r k:=by
 cases r with
 | none=>rfl
 | some p=>obtain ⟨v,h⟩:=p; show forceV v (fun v=>k v h) = k v h; rw [forceV_eq]
theorem cmpR_eq (b:Bool) (k:KV) (h:AHeap) :cmpR b k h = k (.bool b) h:=by cases b <;> rfl
theorem intF_eq (op:BinOp) (q:IntKind) (x y:Int) (k:KV) (h:AHeap) :intF op q x y k h = goQ (intBin op q x y) k h:=by
 have rest:∀ op,iRest op q x y k h = goQ (intBin op q x y) k h:=fun op=>kOV_eq _ _ _
 cases op with
 | mul=>exact rest .mul
 | quo=>exact rest .quo
 | rem=>exact rest .rem
 | and=>exact rest .and
 | or=>exact rest .or
 | xor=>exact rest .xor
 | shl=>exact rest .shl
 | shr=>exact rest .shr
 | andNot=>exact rest .andNot
 | add=>exact kInt_eq _ _ _ _
 | sub=>exact kInt_eq _ _ _ _
 | eql=>exact cmpR_eq _ _ _
 | neq=>exact cmpR_eq _ _ _
 | lss=>exact cmpR_eq _ _ _
 | leq=>exact cmpR_eq _ _ _
 | gtr=>exact cmpR_eq _ _ _
 | geq=>exact cmpR_eq _ _ _
theorem binF_eq (op:BinOp) (vx vy:AVal) (k:KV) (h:AHeap) :binF op vx vy k h = goQ (binOpA op vx vy) k h:=by
 unfold binF
 cases hs:isShift op with
 | true=>exact kOV_eq _ _ _
 | false =>
  show onInt vx _ _ = _
  cases vx with
  | int q x =>
   show bin2 op (.int q x) vy k h q x = _
   unfold bin2
   cases vy with
   | int q' y =>
    show ifB (kbeq q q') _ _ = _
    have hb:binOpA op (.int q x) (.int q' y) = match kbeq q q' with | true=>intBin op q x y | false=>none:=by
     cases op <;> first
      | rfl
      | cases hs
    rw [hb]
    cases kbeq q q' with
    | true=>exact intF_eq op q x y k h
    | false=>rfl
   | _=>cases op <;> first | rfl | cases hs
  | _=>exact kOV_eq _ _ _
theorem lset_lput (l:List AVal) (o:Nat) (y:AVal) :lput l o [y] = lset l o y:=by
 induction l generalizing o with
 | nil=>cases o <;> rfl
 | cons a l ih=>cases o with
  | zero=>cases l <;> rfl
  | succ o=>simp only [lput,lset,ih o]
theorem isScalF_eq (y:AVal) (h:isScalF y = true) :vcellsO y = some [y]∧isScal y = true:=by
 cases y <;> first | exact ⟨rfl,rfl⟩ | cases h
theorem onBool_eq (v:AVal) (f:Bool→KR) (d:KR) :onBool v f d = (match v with | .bool b=>f b | _=>d):=by cases v <;> rfl
theorem onPtr_eq (v:AVal) (f:Pos→Nat→KR) (d:KR) :onPtr v f d = (match v with | .ptr b o=>f b o | _=>d):=by cases v <;> rfl
theorem onSl_eq (v:AVal) (f:Pos→Nat→Nat→Nat→Nat→KR) (d:KR) :onSl v f d = (match v with | .sl b o l c z=>f b o l c z | _=>d):=by cases v <;> rfl
theorem onInt_eq (v:AVal) (f:IntKind→Int→KR) (d:KR) :onInt v f d = (match v with | .int k n=>f k n | _=>d):=by cases v <;> rfl
theorem ifB_eq (b:Bool) (x y:KR) :ifB b x y = (match b with | true=>x | false=>y):=by cases b <;> rfl
theorem write_of_quiet {t:PT AVal} {h:AHeap} {op:AOp} {k:KV} (hq:isQuiet op = true) :goR (write t h op) k = goQ (quiet t h op) k h:=by
 have go:∀ q:Option AVal,goR (match q with | some v=>some (v,h) | none=>none:ARes) k = goQ q k h:=by
  intro q; cases q <;> rfl
 have hw:write t h op = (match quiet t h op with | some v=>some (v,h) | none=>none):=by
  cases op with
  | conv c x=>cases c <;> first | rfl | (simp [isQuiet] at hq; done)
  | _=>first | rfl | (simp [isQuiet] at hq; done)
 rw [hw]
 exact go _
theorem qSlow_eq (op:AOp) (t:PT AVal) (h:AHeap) (k:KV) :qSlow op t h k = goR (write t h op) k:=kRes_eq _ _
theorem qPick_eq (c a b:AOpnd) (t:PT AVal) (h:AHeap) (k:KV) :qPick c a b t h k = goQ (quiet t h (.pick c a b)) k h:=by
 simp only [qPick,quiet,onBool_eq,evO_eq]
 cases c.ev t <;> first | rfl | skip
 rename_i z
 cases z <;> rfl
theorem qLoad1_eq (x:AOpnd) (t:PT AVal) (h:AHeap) (k:KV) :qLoad1 x t h k = goQ (quiet t h (.load1 x)) k h:=by
 simp only [qLoad1,quiet,onPtr_eq,evO_eq]
 cases x.ev t <;> first | rfl | skip
 rename_i b o
 simp only [qLoad1a,hload,getF_eq]
 cases PT.get b h.t with
 | none=>rfl
 | some ob =>
  cases ob with
  | cells l op ro =>
   show onVal (lget l o) _ none = _
   simp only
   cases lget l o <;> rfl
  | _=>rfl
theorem qFieldAddr_eq (off:Nat) (x:AOpnd) (t:PT AVal) (h:AHeap) (k:KV) :qFieldAddr off x t h k = goQ (quiet t h (.fieldAddr off x)) k h:=by
 simp only [qFieldAddr,quiet,onPtr_eq,evO_eq]
 cases x.ev t <;> first | rfl | skip
 exact fNat_eq _ _
theorem qBin_eq (op:BinOp) (x y:AOpnd) (t:PT AVal) (h:AHeap) (k:KV) :qBin op x y t h k = goQ (quiet t h (.bin op x y)) k h:=by
 simp only [qBin,quiet,evO_eq]
 exact binF_eq _ _ _ _ _
theorem qNil_eq (x:AOpnd) (t:PT AVal) (h:AHeap) (k:KV) :qNil x t h k = goQ (quiet t h (.nilCheck x)) k h:=by
 simp only [qNil,onPtr_eq,evO_eq,kOV_eq,quiet]
 cases x.ev t <;> rfl
theorem qIdxS_eq (sz:Nat) (x i:AOpnd) (t:PT AVal) (h:AHeap) (k:KV) :qIdxS sz x i t h k = goQ (quiet t h (.idxS sz x i)) k h:=by
 simp only [qIdxS,quiet,onSl_eq,evO_eq]
 cases x.ev t <;> first | rfl | skip
 rename_i b o len cap s
 simp only [qIdxS1]
 cases natOf (i.ev t) with
 | none=>rfl
 | some n =>
  show ifB (Nat.blt n len) (fNat _ _) none = _
  rw [fNat_eq,ifB_eq]
  simp only
  cases Nat.blt n len <;> rfl
theorem qIdxA_eq (len sz:Nat) (x i:AOpnd) (t:PT AVal) (h:AHeap) (k:KV) :qIdxA len sz x i t h k = goQ (quiet t h (.idxA len sz x i)) k h:=by
 simp only [qIdxA,quiet,onPtr_eq,evO_eq]
 cases x.ev t <;> first | rfl | skip
 rename_i b o
 simp only [qIdxA1]
 cases natOf (i.ev t) with
 | none=>rfl
 | some n =>
  show ifB (Nat.blt n len) (fNat _ _) none = _
  rw [fNat_eq,ifB_eq]
  simp only
  cases Nat.blt n len <;> rfl
theorem qLen_eq (n:Nat) (x:AOpnd) (t:PT AVal) (h:AHeap) (k:KV) :qLen n x t h k = goQ (quiet t h (.len n x)) k h:=by
 simp only [qLen,ifB_eq,onSl_eq,evO_eq,kOV_eq]
 split
 ·rename_i hn
  have:=Nat.eq_of_beq_eq_true hn
  subst this
  simp only [quiet]
  cases x.ev t <;> rfl
 ·rfl
theorem qConvI_eq (q:IntKind) (x:AOpnd) (t:PT AVal) (h:AHeap) (k:KV) :qConvI q x t h k = goQ (quiet t h (.conv (.toInt q) x)) k h:=by
 simp only [qConvI,quiet,onInt_eq,evO_eq,kInt_eq]
 cases x.ev t <;> rfl
theorem qStore_eq (n:Nat) (x y:AOpnd) (t:PT AVal) (h:AHeap) (k:KV) :qStore n x y t h k = goR (write t h (.store n x y)) k:=by
 simp only [qStore,ifB_eq,kRes_eq]
 split
 ·rename_i hn
  have:=Nat.eq_of_beq_eq_true hn
  subst this
  simp only [qStore1,ifB_eq,kRes_eq,onPtr_eq,evO_eq]
  split
  ·rename_i hs
   obtain ⟨h1,h2⟩:=isScalF_eq _ hs
   simp only [write,h1]
   cases x.ev t <;> first | rfl | skip
   rename_i b o
   simp only [List.length_singleton]
   show _ = goR (match hstoreN h b o [y.ev t] with | some h'=>some (.undef,h') | none=>none) k
   simp only [qStore2,hstoreN,getF_eq,allScal,h2,lset_lput]
   cases PT.get b h.t with
   | none=>rfl
   | some ob =>
    cases ob with
    | cells l op ro =>
     cases ro with
     | true=>rfl
     | false =>
      show onList (lset l o (y.ev t)) _ none = _
      simp only
      cases lset l o (y.ev t) with
      | none=>rfl
      | some l' =>
       show k .undef ⟨setF h.t b _,h.nx⟩ = _
       rw [setF_eq]
       rfl
    | _=>rfl
  ·rfl
 ·rfl
end Go.Am
end

section
namespace Go.Am
theorem putD_eq (d:Option Pos) (v:AVal) (t:PT AVal) :putD d v t = tput t d v:=by
 cases d with
 | none=>rfl
 | some p=>exact setF_eq t p (some v)
theorem evsF_eq (l:List AOpnd) (t:PT AVal) :evsF l t = evs t l:=by
 induction l with
 | nil=>rfl
 | cons x l ih=>show evO x t :: evsF l t = _; rw [evO_eq,ih]; rfl
def stepA (E:Env) (rec:Rec) (op:AOp) (d:Option Pos) (next:LF) (ds:List ADef) (t:PT AVal) (h:AHeap) :KR :=
 match op with
 | .defer f args=>match f.ev t with
  | .func g first caps=>next (.fn g (first ++ (evs t args ++ caps)) :: ds) (tput t d .undef) h
  | _=>none
 | op=>goR (execA E rec t h op) fun v h'=>next ds (tput t d v) h'
theorem after_eq (d:Option Pos) (next:LF) (ds:List ADef) (t:PT AVal) :afterF d next ds t = fun v h=>next ds (tput t d v) h:=by
 funext v h
 show next ds (putD d v t) h = _
 rw [putD_eq]
theorem xQ_quiet {E:Env} {rec:Rec} {q:QF} {op:AOp} {d:Option Pos} {next:LF} {ds:List ADef} {t:PT AVal} {h:AHeap} (hq:∀ k,q t h k = goQ (quiet t h op) k h) (hi:isQuiet op = true) (he:execA E rec t h op = write t h op) :
  xQ q E rec d next ds t h = goR (execA E rec t h op) fun v h'=>next ds (tput t d v) h':=by
 show q t h (afterF d next ds t) = _
 rw [after_eq,hq,he,write_of_quiet hi]
theorem xQ_write {E:Env} {rec:Rec} {q:QF} {op:AOp} {d:Option Pos} {next:LF} {ds:List ADef} {t:PT AVal} {h:AHeap} (hq:∀ k,q t h k = goR (write t h op) k) (he:execA E rec t h op = write t h op) :
  xQ q E rec d next ds t h = goR (execA E rec t h op) fun v h'=>next ds (tput t d v) h':=by
 show q t h (afterF d next ds t) = _
 rw [after_eq,hq,he]
theorem execF_eq (E:Env) (rec:Rec) (op:AOp) (d:Option Pos) (next:LF) (ds:List ADef) (t:PT AVal) (h:AHeap) :execF op E rec d next ds t h = stepA E rec op d next ds t h:=by
 cases op with
 | move x =>
  show next ds (putD d (evO x t) t) h = _
  rw [putD_eq,evO_eq]
  rfl
 | pick c a b=>exact xQ_quiet (qPick_eq c a b t h) rfl rfl
 | load1 x=>exact xQ_quiet (qLoad1_eq x t h) rfl rfl
 | nilCheck x=>exact xQ_quiet (qNil_eq x t h) rfl rfl
 | bin op x y=>exact xQ_quiet (qBin_eq op x y t h) rfl rfl
 | fieldAddr o x=>exact xQ_quiet (qFieldAddr_eq o x t h) rfl rfl
 | idxS sz x i=>exact xQ_quiet (qIdxS_eq sz x i t h) rfl rfl
 | idxA n sz x i=>exact xQ_quiet (qIdxA_eq n sz x i t h) rfl rfl
 | len n x=>exact xQ_quiet (qLen_eq n x t h) rfl rfl
 | store n x y=>exact xQ_write (qStore_eq n x y t h) rfl
 | conv c x=>cases c with
  | toInt k=>exact xQ_quiet (qConvI_eq k x t h) rfl rfl
  | strBytes=>exact xQ_write (E:=E) (rec:=rec) (qSlow_eq _ t h) rfl
  | bytesStr=>exact xQ_write (E:=E) (rec:=rec) (qSlow_eq _ t h) rfl
  | same=>exact xQ_write (E:=E) (rec:=rec) (qSlow_eq _ t h) rfl
  | mark=>exact xQ_write (E:=E) (rec:=rec) (qSlow_eq _ t h) rfl
 | callF f l =>
  show kRes (callA E rec f (evsF l t) h) (afterF d next ds t) = _
  rw [kRes_eq,after_eq,evsF_eq]
  rfl
 | callV f l =>
  show kRes (callVal E rec (evO f t) (evsF l t) h) (afterF d next ds t) = _
  rw [kRes_eq,after_eq,evsF_eq,evO_eq]
  rfl
 | defer f args=>rfl
 | bad=>rfl
 | alloc z=>exact xQ_write (E:=E) (rec:=rec) (qSlow_eq _ t h) rfl
 | box x=>exact xQ_write (E:=E) (rec:=rec) (qSlow_eq _ t h) rfl
 | build z ps=>exact xQ_write (E:=E) (rec:=rec) (qSlow_eq _ t h) rfl
 | buildSlice z l ps=>exact xQ_write (E:=E) (rec:=rec) (qSlow_eq _ t h) rfl
 | loadN n x=>exact xQ_write (E:=E) (rec:=rec) (qSlow_eq _ t h) rfl
 | eq g n x y=>exact xQ_write (E:=E) (rec:=rec) (qSlow_eq _ t h) rfl
 | un op x=>exact xQ_write (E:=E) (rec:=rec) (qSlow_eq _ t h) rfl
 | field1 o x=>exact xQ_write (E:=E) (rec:=rec) (qSlow_eq _ t h) rfl
 | fieldN o n x=>exact xQ_write (E:=E) (rec:=rec) (qSlow_eq _ t h) rfl
 | idxStr x i=>exact xQ_write (E:=E) (rec:=rec) (qSlow_eq _ t h) rfl
 | idxArr n x i=>exact xQ_write (E:=E) (rec:=rec) (qSlow_eq _ t h) rfl
 | slice k x l h' m=>exact xQ_write (E:=E) (rec:=rec) (qSlow_eq _ t h) rfl
 | s2ap n x=>exact xQ_write (E:=E) (rec:=rec) (qSlow_eq _ t h) rfl
 | mkI ty x=>exact xQ_write (E:=E) (rec:=rec) (qSlow_eq _ t h) rfl
 | mkF f a b=>exact xQ_write (E:=E) (rec:=rec) (qSlow_eq _ t h) rfl
 | mkMap=>exact xQ_write (E:=E) (rec:=rec) (qSlow_eq _ t h) rfl
 | mkSlice z b l c=>exact xQ_write (E:=E) (rec:=rec) (qSlow_eq _ t h) rfl
 | lookup q z x k ok=>exact xQ_write (E:=E) (rec:=rec) (qSlow_eq _ t h) rfl
 | mapUpdate q m k v=>exact xQ_write (E:=E) (rec:=rec) (qSlow_eq _ t h) rfl
 | extract x i=>exact xQ_write (E:=E) (rec:=rec) (qSlow_eq _ t h) rfl
 | append a b s x=>exact xQ_write (E:=E) (rec:=rec) (qSlow_eq _ t h) rfl
 | copy s d' x=>exact xQ_write (E:=E) (rec:=rec) (qSlow_eq _ t h) rfl
 | mm m xs=>exact xQ_write (E:=E) (rec:=rec) (qSlow_eq _ t h) rfl
 | clear z x=>exact xQ_write (E:=E) (rec:=rec) (qSlow_eq _ t h) rfl
theorem opsF_eq (E:Env) (rec:Rec) :∀ (l:List AOper) (ds:List ADef) (t:PT AVal) (h:AHeap),opsF E rec l ds t h = opsA E rec ds l t h
 | [],ds,t,h=>rfl
 | ⟨d,op,g⟩ :: l,ds,t,h=>by
  have ih:opsF E rec l = fun ds t h=>opsA E rec ds l t h:=by
   funext ds t h; exact opsF_eq E rec l ds t h
  have hone:stepA E rec op d (opsF E rec l) ds t h = (match op with
   | .defer f args=>match f.ev t with
    | .func g first caps=>opsA E rec (.fn g (first ++ (evs t args ++ caps)) :: ds) l (tput t d .undef) h
    | _=>none
   | op=>match execA E rec t h op with
    | some (v,h')=>forceV v fun v=>opsA E rec ds l (tput t d v) h'
    | none=>none):=by
   rw [ih]
   have go:∀ r:ARes,goR r (fun v h'=>opsA E rec ds l (tput t d v) h') = (match r with | some (v,h')=>forceV v fun v=>opsA E rec ds l (tput t d v) h' | none=>none):=by
    intro r
    cases r with
    | none=>rfl
    | some p =>
     obtain ⟨v,h'⟩:=p
     show opsA E rec ds l (tput t d v) h' = forceV v fun v=>opsA E rec ds l (tput t d v) h'
     rw [forceV_eq]
   cases op <;> first
    | rfl
    | exact go (execA E rec t h _)
    | exact (forceV_eq _ (fun v=>opsA E rec ds l (tput t d v) h)).symm
  show operF E rec (opsF E rec l) ds t h d op g = _
  simp only [opsA]
  cases g with
  | none =>
   show execF op E rec d (opsF E rec l) ds t h = _
   rw [execF_eq,hone]
   rfl
  | some g =>
   show @Option.rec Bool (fun _=>KR) none (fun b=>ifB b (execF op E rec d (opsF E rec l) ds t h) (opsF E rec l ds (putD d .undef t) h)) (wantedA t (some g)) = _
   cases hw:wantedA t (some g) with
   | none=>rfl
   | some b =>
    cases b with
    | true =>
     show execF op E rec d (opsF E rec l) ds t h = _
     rw [execF_eq,hone]
     rfl
    | false =>
     show opsF E rec l ds (putD d .undef t) h = _
     rw [putD_eq,opsF_eq E rec l]
theorem seqF_eq (r:KR) (next:AAct→AHeap→KR) :seqF r next = (match r with | some (.normal,a,h)=>next a h | r=>r):=by
 cases r with
 | none=>rfl
 | some p =>
  obtain ⟨e,a,h⟩:=p
  cases e <;> rfl
theorem evF_eq (E:Env) :∀ n,evF E n = ev E n
 | 0=>by
  funext c ro a h
  rfl
 | n + 1=>by
  have ih:=evF_eq E n
  funext c ro a h
  show codeF c n E (evF E n) ro a h = _
  rw [ih]
  cases c with
  | skip=>rfl
  | label l=>rfl
  | exit id=>rfl
  | ret=>rfl
  | goto l=>rfl
  | bad=>rfl
  | draw ops=>rfl
  | scope b=>rfl
  | rangeFunc f ps x y=>rfl
  | region ops =>
   obtain ⟨t,ds⟩:=a
   exact opsF_eq E (ev E n) ops ds t h
  | seq x y=>exact seqF_eq _ _
  | loop b=>exact seqF_eq _ _
  | cond x c1 c2 =>
   obtain ⟨t,ds⟩:=a
   show onBool (evO x t) _ none = _
   rw [onBool_eq,evO_eq]
   simp only [ev]
   cases x.ev t with
   | bool b=>cases b <;> rfl
   | _=>rfl
  | block id b =>
   show onKR (ev E n b ro a h) (block1 id) none = _
   simp only [ev]
   cases ev E n b ro a h with
   | none=>rfl
   | some p =>
    obtain ⟨e,a',h'⟩:=p
    cases e with
    | exit id' =>
     show ifB (Nat.beq id id') _ _ = _
     rw [ifB_eq]
     rfl
    | _=>rfl
end Go.Am
end
