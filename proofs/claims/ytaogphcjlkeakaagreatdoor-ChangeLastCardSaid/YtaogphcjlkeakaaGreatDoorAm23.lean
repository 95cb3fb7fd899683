/- Part of the proof: AmChunk, AmStart, AmLawKit. -/
import Derived.Test.YtaogphcjlkeakaaGreatDoorAm22
import Derived.KernelRfl
import Derived.Lib.LaidTab
import Derived.ChangeSame
import Derived.OpenShut
import Derived.ChangeArms
import Derived.Lib.ItoaLen
set_option linter.unusedSimpArgs false
set_option linter.unusedVariables false
section
namespace Go.Am
open Go Go.RowKit
def newT (nx:Nat) :PT AObj→Nat→Nat→Bool
 | .l,_,_=>true
 | .n a v b,lo,w=>(match v with
  | none=>true
  | some _=>Nat.ble nx (Nat.add lo w)) && (newT nx a lo (Nat.mul 2 w) && newT nx b (Nat.add lo w) (Nat.mul 2 w))
def subO (nx k:Nat) :Option AObj→Option AObj→Bool
 | none,none=>true
 | none,some _=>Nat.ble nx k
 | some x,some y=>eqvO x y
 | some _,none=>false
def subT (nx:Nat) :PT AObj→PT AObj→Nat→Nat→Bool
 | .l,t,lo,w=>newT nx t lo w
 | .n _ _ _,.l,_,_=>false
 | .n a v b,.n a' v' b',lo,w=>subO nx (Nat.add lo w) v v' && (subT nx a a' lo (Nat.mul 2 w) && subT nx b b' (Nat.add lo w) (Nat.mul 2 w))
def gcOk (nx:Pos) (h1 h:AHeap) :Bool:=Pos.beq h1.nx h.nx && subT nx.toNat h1.t h.t 0 1
theorem newT_get {nx:Nat} :∀ {t:PT AObj} {lo w:Nat},newT nx t lo w = true→∀ p,PT.get p t = none∨nx≤lo + w * p.toNat
 | .l,lo,w,_,p=>.inl (get_nil p)
 | .n a v b,lo,w,h,p=>by
  simp only [newT,Bool.and_eq_true] at h
  obtain ⟨h1,h2,h3⟩:=h
  have e2:Nat.mul 2 w = 2 * w:=rfl
  have e1:Nat.add lo w = lo + w:=rfl
  rw [e2] at h2 h3
  rw [e1] at h3
  cases p with
  | h =>
   cases v with
   | none=>exact .inl rfl
   | some x =>
    have:=Nat.le_of_ble_eq_true h1
    rw [e1] at this
    simp only [Pos.toNat]
    exact .inr (by omega)
  | o q =>
   rcases newT_get h2 q with h | h
   ·exact .inl h
   ·refine .inr ?_
    simp only [Pos.toNat]
    have:w * (2 * q.toNat) = 2 * w * q.toNat:=by rw [Nat.mul_left_comm,Nat.mul_assoc]
    omega
  | i q =>
   rcases newT_get h3 q with h | h
   ·exact .inl h
   ·refine .inr ?_
    simp only [Pos.toNat]
    have:w * (2 * q.toNat + 1) = 2 * w * q.toNat + w:=by rw [Nat.mul_add,Nat.mul_left_comm,Nat.mul_assoc]; omega
    omega
theorem subT_get {nx:Nat} :∀ {k f:PT AObj} {lo w:Nat},subT nx k f lo w = true→∀ p,PT.get p k = PT.get p f∨(PT.get p k = none∧nx≤lo + w * p.toNat)
 | .l,f,lo,w,h,p=>by
  simp only [subT] at h
  rcases newT_get h p with h | h
  ·exact .inl (by rw [get_nil,h])
  ·exact .inr ⟨get_nil p,h⟩
 | .n _ _ _,.l,_,_,h,_=>by simp [subT] at h
 | .n a v b,.n a' v' b',lo,w,h,p=>by
  simp only [subT,Bool.and_eq_true] at h
  obtain ⟨h1,h2,h3⟩:=h
  have e2:Nat.mul 2 w = 2 * w:=rfl
  have e1:Nat.add lo w = lo + w:=rfl
  rw [e2] at h2 h3
  rw [e1] at h1 h3
  cases p with
  | h =>
   cases v with
   | none =>
    cases v' with
    | none=>exact .inl rfl
    | some y =>
     have:=Nat.le_of_ble_eq_true h1
     refine .inr ⟨rfl,?_⟩
     simp only [Pos.toNat]
     omega
   | some x =>
    cases v' with
    | none=>simp [subO] at h1
    | some y =>
     simp only [subO] at h1
     exact .inl (by rw [eqvO_eq _ _ h1]; rfl)
  | o q =>
   rcases subT_get h2 q with h | ⟨h,h'⟩
   ·exact .inl h
   ·refine .inr ⟨h,?_⟩
    simp only [Pos.toNat]
    have:w * (2 * q.toNat) = 2 * w * q.toNat:=by rw [Nat.mul_left_comm,Nat.mul_assoc]
    omega
  | i q =>
   rcases subT_get h3 q with h | ⟨h,h'⟩
   ·exact .inl h
   ·refine .inr ⟨h,?_⟩
    simp only [Pos.toNat]
    have:w * (2 * q.toNat + 1) = 2 * w * q.toNat + w:=by rw [Nat.mul_add,Nat.mul_left_comm,Nat.mul_assoc]; omega
    omega
structure Mem where
 args:List AVal
 h0:AHeap
 v:AVal
 h1:AHeap
def chunkOk (E:Env) (n:Nat) (f:FuncId) (m:Mem) :Bool :=
 match callF E (ev E n) f m.args m.h0 with
 | some (v,h)=>eqvV v m.v && gcOk m.h0.nx m.h1 h
 | none=>false
noncomputable def chunkF (E:Env) (n:Nat) (f:FuncId) (m:Mem) :Bool :=
 match callF E (evF E n) f m.args m.h0 with
 | some (v,h)=>eqvV v m.v && gcOk m.h0.nx m.h1 h
 | none=>false
theorem chunkF_eq (E:Env) (n:Nat) (f:FuncId) (m:Mem) :chunkF E n f m = chunkOk E n f m:=by
 unfold chunkF chunkOk
 rw [evF_eq]
def memos:List Mem→List AVal→AHeap→ARes
 | [],_,_=>none
 | m :: ms,args,h=>match eqvL args m.args with
  | true=>match eqvH h m.h0 with
   | true=>some (m.v,m.h1)
   | false=>memos ms args h
  | false=>memos ms args h
section
variable {P:Program} {T:Tys} {B:Nat} {φ φ':Emb} {H H1 H2:AHeap} {w w':World}
theorem Sim.gc (hS:Sim T B φ H w φ' H1 w') (h:gcOk H.nx H2 H1 = true) :Sim T B φ H w φ' H2 w':=by
 simp only [gcOk,Bool.and_eq_true] at h
 obtain ⟨h1,h2⟩:=h
 have hnx:H2.nx = H1.nx:=Pos.beq_eq.1 h1
 have hg:=subT_get h2
 have sub:∀ p o,PT.get p H2.t = some o→PT.get p H1.t = some o:=fun p o hp=>by
  rcases hg p with h | ⟨h,_⟩
  ·rw [← h]; exact hp
  ·rw [h] at hp; cases hp
 have sub':∀ p,PT.get p H2.t ≠ none→PT.get p H1.t ≠ none:=fun p hp=>by
  cases ho:PT.get p H2.t with
  | none=>exact absurd ho hp
  | some o=>rw [sub p o ho]; simp
 have hR:=hS.rel
 refine ⟨⟨hS.ext.le,fun p hp hn=>?_,by rw [hnx]; exact hS.ext.nx⟩,⟨fun p o x h1 h2=>hR.obj p o x (sub p o h1) h2,fun p q x y hpq hp hq=>hR.inj p q x y hpq (sub' p hp) (sub' q hq),fun p x hx=>by rw [hnx]; exact hR.low p x hx,fun p hp=>by rw [hnx]; exact hR.dom p (sub' p hp),hR.base,hR.glob⟩,hS.below⟩
 obtain ⟨e1,e2⟩:=hS.ext.old p hp hn
 refine ⟨e1,?_⟩
 rcases hg p with h | ⟨_,h⟩
 ·rw [h,e2]
 ·omega
theorem SumOk.of_memos {E:Env} {n:Nat} {f:FuncId} (hT:TOk2 T P) (hE:EnvOk P T B E) (hm:P.follows .mixedOrders = true) {ms:List Mem} (h:∀ m ∈ ms,chunkOk E n f m = true) :SumOk P T B f (memos ms):=by
 intro φ H w args args' v H' hH hl hc
 induction ms with
 | nil=>simp [memos] at hc
 | cons m ms ih =>
  simp only [memos] at hc
  have ih:=ih fun m' hm'=>h m' (List.mem_cons_of_mem _ hm')
  split at hc
  ·rename_i e1
   split at hc
   ·rename_i e2
    cases hc
    have hk:=h m (by simp)
    unfold chunkOk at hk
    have e1:=eqvL_eq _ _ e1
    have e2:=eqvH_eq _ _ e2
    subst e1
    subst e2
    split at hk
    ·rename_i v h1 hcall
     simp only [Bool.and_eq_true] at hk
     obtain ⟨g1,g2⟩:=runA_ok hT hE hm hH hl hcall
     refine .inl ⟨g1,CallsIn.mono g2 fun e w' ⟨u,φ',he,hv,hS⟩=>⟨u,φ',he,?_,hS.gc hk.2⟩⟩
     rw [← eqvV_eq _ _ hk.1]
     exact hv
    ·cases hk
   ·exact ih hc
  ·exact ih hc
theorem SumOk.of_chunks {E:Env} {n:Nat} {f:FuncId} (hT:TOk2 T P) (hE:EnvOk P T B E) (hm:P.follows .mixedOrders = true) {ms:List Mem} (h:∀ m ∈ ms,chunkF E n f m = true) :SumOk P T B f (memos ms) :=
 SumOk.of_memos hT hE hm fun m hm'=>by rw [← chunkF_eq]; exact h m hm'
theorem Returns.of_chunk {E:Env} {n:Nat} {f:FuncId} (hT:TOk2 T P) (hE:EnvOk P T B E) (hm:P.follows .mixedOrders = true) {m:Mem} (h:chunkF E n f m = true) (hH:HRel T B φ m.h0 w) {args':Array Value} (hl:LRel φ m.args args'.toList) :Returns P T B φ m.h0 w f args' m.v m.h1:=by
 rw [chunkF_eq] at h
 unfold chunkOk at h
 split at h
 ·rename_i v h1 hcall
  simp only [Bool.and_eq_true] at h
  obtain ⟨g1,g2⟩:=runA_ok hT hE hm hH hl hcall
  refine ⟨g1,CallsIn.mono g2 fun e w' ⟨u,φ',he,hv,hS⟩=>⟨u,φ',he,?_,hS.gc h.2⟩⟩
  rw [← eqvV_eq _ _ h.1]
  exact hv
 ·cases h
end
def u8 (n:Nat) :AVal:=.int .u8 (.ofNat n)
def i6 (n:Nat) :AVal:=.int .i64 (.ofNat n)
def u8s:List Nat→List AVal
 | []=>[]
 | n :: l=>.int .u8 (.ofNat n) :: u8s l
def i6s:List Nat→List AVal
 | []=>[]
 | n :: l=>.int .i64 (.ofNat n) :: i6s l
end Go.Am
end

section
namespace Go.Am
open Go Go.RowKit Go.ChangeShapes Go.WideShapes
theorem laid_row {P:Program} {W:World} {n:String} {d:DataW Unit} :∀ {l:List (String × DataW Unit)} {ps:List MemPlace},DataW.LaidVars P W l ps→(n,d) ∈ l →
  ∃ g t cs fuel p,P.globalNamed n = some g∧(P.globals[g]?).map (·.type) = some t∧W.var? P n = some cs∧DataW.trod (fun _=>()) P W 0 (fun _=>true) false fuel t cs.toList = some (d,p)
 | [],_,_,h=>by cases h
 | (n',d') :: r,ps,⟨g,t,cs,fuel,p,q,h1,h2,h3,h4,h5,_⟩,h=>by
  rcases List.mem_cons.1 h with e | h
  ·cases e; exact ⟨g,t,cs,fuel,p,h1,h2,h3,h4⟩
  ·exact laid_row h5 h
theorem block_of_var {P:Program} {W:World} {n:String} {g:Nat} {cs:Array Value} (hg:P.globalNamed n = some g) (h:W.var? P n = some cs) :∃ e fz,W.heap[g]? = some (.cells cs e fz):=by
 simp only [World.var?,hg,Option.bind_some] at h
 split at h
 ·rename_i cs' e fz hc
  cases h
  exact ⟨e,fz,hc⟩
 ·cases h
def Lies (W:World) (g:Nat) (l:List AVal) :Prop:=∃ arr e fz,W.heap[g]? = some (.cells arr e fz)∧∀ φ,LRel φ l arr.toList
theorem LRel.ints {φ:Emb} {k:IntKind} :∀ (zs:List Int),LRel φ (zs.map (AVal.int k)) (zs.map fun z=>Value.int k z)
 | []=>rfl
 | _ :: zs=>⟨_,_,rfl,rfl,LRel.ints zs⟩
theorem lies_tab {P:Program} {W:World} {l:List (String × DataW Unit)} {name:String} {k:IntKind} {zs:List Int} {g:Nat} {t e:TypeId} {n:Nat} (h:laidMet P l W) (hm:(name,Lib.tabData k zs) ∈ l)
  (hg:P.globalNamed name = some g) (hty:(P.globals[g]?).map (·.type) = some t) (ht:P.underlying t = some (.array n e)) (he:P.underlying e = some (.int k)) (hce:P.cellsOf e = 1) (hct:P.cellsOf t = n) :Lies W g (zs.map (AVal.int k))∧Lib.TabIs P W name k zs:=by
 obtain ⟨ps,h1,_,_⟩:=h
 obtain ⟨g',t',cs,fuel,p,hg',hty',hv,hd⟩:=laid_row h1 hm
 obtain rfl:=Option.some.inj (hg.symm.trans hg')
 obtain rfl:=Option.some.inj (hty.symm.trans hty')
 have hc:=Lib.cells_of_tab ht he hce hct hd
 obtain ⟨ee,fz,hb⟩:=block_of_var hg hv
 refine ⟨⟨cs,ee,fz,hb,fun φ=>by rw [hc]; exact LRel.ints zs⟩,?_⟩
 unfold Lib.TabIs
 rw [hv,← hc]
def pairCells:List (List UInt8 × Int)→List AVal
 | []=>[]
 | (s,n) :: l=>.str (s.map UInt8.toNat) :: .int .i64 n :: pairCells l
theorem pairs_rel {φ:Emb} :∀ {ss:List (List UInt8 × Int)} {cs:List Value},cs.length = ss.length * 2→(∀ i p,ss[i]? = some p→cs[i * 2]? = some (.string ⟨p.1.toArray⟩)∧cs[i * 2 + 1]? = some (.int .i64 p.2))→LRel φ (pairCells ss) cs
 | [],cs,h,_=>by
  have:cs = []:=List.length_eq_zero_iff.1 (by simpa using h)
  rw [this]; rfl
 | (s,n) :: ss,cs,h,hk=>by
  match cs,h with
  | [],h=>simp at h
  | [a],h=>simp at h; omega
  | a :: b :: cs,h =>
   obtain ⟨h1,h2⟩:=hk 0 (s,n) rfl
   simp at h1 h2
   refine ⟨a,b :: cs,rfl,⟨?_,fun x hx=>?_⟩,b,cs,rfl,h2,pairs_rel (by simp at h; omega) fun i p hp=>?_⟩
   ·rw [h1]
    congr 2
    have:(UInt8.ofNat ∘ UInt8.toNat) = id:=by funext b; simp
    simp [this]
   ·obtain ⟨y,_,rfl⟩:=List.mem_map.1 hx
    exact y.toNat_lt
   ·have:=hk (i + 1) p (by simpa using hp)
    rw [show (i + 1) * 2 = i * 2 + 1 + 1 by omega] at this
    simpa using this
theorem lies_pairs {P:Program} {W:World} {l:List (String × DataW Unit)} {name:String} {ss:List (List UInt8 × Int)} {g:Nat} {t e:TypeId} {n:Nat} {f0 f1:Field} (h:laidMet P l W) (hm:(name,.agg (ss.map fun p=>.agg [.lit (.string p.1),.lit (.int .i64 p.2)])) ∈ l)
  (hg:P.globalNamed name = some g) (hty:(P.globals[g]?).map (·.type) = some t) (ht:P.underlying t = some (.array n e)) (he:P.underlying e = some (.struct #[f0,f1])) (h0:P.underlying f0.type = some .string) (h1:P.underlying f1.type = some (.int .i64))
  (o0:f0.offset = 0) (o1:f1.offset = 1) (c0:P.cellsOf f0.type = 1) (c1:P.cellsOf f1.type = 1) (ce:P.cellsOf e = 2) (ct:P.cellsOf t = n * 2) :Lies W g (pairCells ss):=by
 obtain ⟨ps,hv0,_,_⟩:=h
 obtain ⟨g',t',cs,fuel,p,hg',hty',hv,hd⟩:=laid_row hv0 hm
 obtain rfl:=Option.some.inj (hg.symm.trans hg')
 obtain rfl:=Option.some.inj (hty.symm.trans hty')
 obtain ⟨ee,fz,hb⟩:=block_of_var hg hv
 obtain ⟨xs,m,_,ex,hl,hxl,hel⟩:=DataW.trod_array ht hd
 have hmap:xs.map (·.1) = ss.map fun p=>.agg [.lit (.string p.1),.lit (.int .i64 p.2)]:=(DataW.agg.inj (Prod.mk.inj ex).1).symm
 have hsl:ss.length = n:=by
  have:=congrArg List.length hmap
  simp at this; omega
 refine ⟨cs,ee,fz,hb,fun φ=>pairs_rel (by rw [hl,ct,hsl]) fun i p hp=>?_⟩
 have hi:i < n:=by
  rcases Nat.lt_or_ge i n with h | h
  ·exact h
  ·rw [List.getElem?_eq_none (by omega)] at hp; cases hp
 have hE:=hel i hi
 rw [ce] at hE
 have hx:(xs.map (·.1))[i]? = some (.agg [.lit (.string p.1),.lit (.int .i64 p.2)]):=by
  rw [hmap,List.getElem?_map,hp]; rfl
 rw [List.getElem?_map] at hx
 cases hxi:xs[i]? with
 | none=>rw [hxi] at hx; cases hx
 | some y =>
  rw [hxi] at hx hE
  obtain ⟨y0,y1,k,ey,_,g0,g1⟩:=trod_struct2 he hE
  have hy:y.1 = .agg [.lit (.string p.1),.lit (.int .i64 p.2)]:=by simpa using hx
  rw [ey] at hy
  simp only [DataW.agg.injEq,List.cons.injEq,and_true] at hy
  obtain ⟨e0,e1⟩:=hy
  obtain ⟨s,s1,s2,_⟩:=DataW.trod_string h0 g0
  obtain ⟨z,z1,z2,_⟩:=DataW.trod_int h1 g1
  rw [s2] at e0
  rw [z2] at e1
  have e0:s.data.toList = p.1:=by simpa using e0
  have e1:z = p.2:=by simpa using e1
  rw [o0,c0] at s1
  rw [o1,c1] at z1
  constructor
  ·have:(((cs.toList.drop (i * 2)).take 2).drop 0 |>.take 1)[0]? = some (.string s):=by rw [s1]; rfl
   simp only [List.drop_zero,List.getElem?_take,List.getElem?_drop] at this
   simp at this
   rw [← e0]
   simpa using this
  ·have:(((cs.toList.drop (i * 2)).take 2).drop 1 |>.take 1)[0]? = some (.int .i64 z):=by rw [z1]; rfl
   simp only [List.getElem?_take,List.getElem?_drop] at this
   simp at this
   rw [← e1]
   simpa using this
def globEmb (W:World) (ng:Nat) :Emb:=fun p=>match Nat.ble p.toNat ng with
 | true=>some ⟨p.toNat - 1,0,match W.heap[p.toNat - 1]? with | some (.cells arr _ _)=>arr.size | _=>0⟩
 | false=>none
theorem HRel.start {T:Tys} {W:World} {objs:List (Nat × List AVal)} (hng:T.ng≤W.heap.size) (h31:T.ng < 2 ^ 31) (h:∀ p ∈ objs,p.1 < T.ng∧Lies W p.1 p.2) :
  HRel T W.heap.size (globEmb W T.ng) ⟨putAll (objs.map fun p=>(p.1,.cells p.2 false true)) .l,Pos.ofNat T.ng⟩ W:=by
 have hto:∀ g,g < 2 ^ 31→(Pos.ofNat g).toNat = g + 1:=fun g hg=>Pos.toNat_ofNat hg
 have hinv:∀ (p:Pos) o,PT.get p (putAll (objs.map fun p=>(p.1,AObj.cells p.2 false true)) (.l:PT AObj)) = some o→∃ q ∈ objs,p = Pos.ofNat q.1∧o = .cells q.2 false true:=by
  have all:∀ (l:List (Nat × AObj)) (t:PT AObj) (p:Pos) o,PT.get p (putAll l t) = some o→(∃ q ∈ l,p = Pos.ofNat q.1∧o = q.2)∨PT.get p t = some o:=by
   intro l
   induction l with
   | nil=>intro t p o h; exact .inr h
   | cons x l ih =>
    intro t p o h
    simp only [putAll] at h
    rcases ih _ p o h with ⟨q,hq,e⟩ | h
    ·exact .inl ⟨q,List.mem_cons_of_mem _ hq,e⟩
    ·by_cases e:Pos.ofNat x.1 = p
     ·subst e
      rw [PT.get_set_same] at h
      exact .inl ⟨x,by simp,rfl,(Option.some.inj h).symm⟩
     ·rw [PT.get_set_other _ _ _ _ e] at h
      exact .inr h
  intro p o hp
  rcases all _ _ p o hp with ⟨q,hq,e1,e2⟩ | hp
  ·obtain ⟨q',hq',rfl⟩:=List.mem_map.1 hq
   exact ⟨q',hq',e1,e2⟩
  ·rw [get_nil] at hp; cases hp
 have hem:∀ p x,globEmb W T.ng p = some x→p.toNat≤T.ng∧x.c = p.toNat - 1∧x.s = 0∧x.k = (match W.heap[p.toNat - 1]? with | some (.cells arr _ _)=>arr.size | _=>0):=by
  intro p x hx
  unfold globEmb at hx
  split at hx
  ·rename_i hb
   cases hx
   exact ⟨Nat.le_of_ble_eq_true hb,rfl,rfl,rfl⟩
  ·cases hx
 refine ⟨fun p o x hp hx=>?_,fun p q x y hpq hp hq hx hy=>?_,fun p x hx=>?_,fun p hp=>?_,Nat.le_refl _,fun g hg=>?_⟩
 ·obtain ⟨q,hq,rfl,rfl⟩:=hinv p o hp
  obtain ⟨h1,arr,e,⟨lo,hi⟩,h2,h3⟩:=h q hq
  obtain ⟨_,e1,e2,e3⟩:=hem _ x hx
  rw [hto q.1 (by omega)] at e1 e3
  simp only [Nat.add_sub_cancel] at e1 e3
  rw [h2] at e3
  simp only at e3
  have hlen:=(h3 (globEmb W T.ng)).lengthA
  refine ⟨arr,e,lo,hi,by rw [e1]; exact h2,e3.symm,by rw [e2,e3,hlen]; omega,fun i a hi=>?_,.inr (.inr rfl),fun _ h=>(by cases h),fun h=>(by cases h)⟩
  obtain ⟨v,g1,g2⟩:=(h3 (globEmb W T.ng)).getA i a hi
  exact ⟨v,by rw [e2,Nat.zero_add]; exact g1,g2⟩
 ·obtain ⟨a1,b1,_⟩:=hem p x hx
  obtain ⟨a2,b2,_⟩:=hem q y hy
  intro e
  have hp1:=Pos.toNat_pos p
  have hq1:=Pos.toNat_pos q
  have:p.toNat = q.toNat:=by omega
  exact hpq (Pos.toNat_inj this)
 ·obtain ⟨a1,b1,_⟩:=hem p x hx
  have hp1:=Pos.toNat_pos p
  rw [hto T.ng h31]
  exact ⟨by omega,by omega⟩
 ·cases ho:PT.get p (putAll (objs.map fun p=>(p.1,AObj.cells p.2 false true)) (.l:PT AObj)) with
  | none=>exact absurd ho hp
  | some o =>
   obtain ⟨q,hq,rfl,_⟩:=hinv p o ho
   have:=(h q hq).1
   show (Pos.ofNat q.1).toNat < (Pos.ofNat T.ng).toNat
   rw [hto q.1 (by omega),hto T.ng h31]
   omega
 ·refine ⟨(match W.heap[g]? with | some (.cells arr _ _)=>arr.size | _=>0),?_⟩
  unfold globEmb
  rw [hto g (by omega)]
  have:Nat.ble (g + 1) T.ng = true:=Nat.ble_eq_true_of_le (by omega)
  rw [this]
  simp
theorem Returns.calls {P:Program} {T:Tys} {B:Nat} {φ:Emb} {H H':AHeap} {w:World} {f:FuncId} {args:Array Value} {v:AVal} (h:Returns P T B φ H w f args v H') {Q:Ending→World→Prop}
  (hQ:∀ u φ' w',VRel φ' v u→Sim T B φ H w φ' H' w'→Q (.returned u) w') :Calls P f args w Q :=
 callsIn_wide.1 (CallsIn.mono h.2 fun e w' ⟨u,φ',he,hv,hS⟩=>by subst he; exact hQ u φ' w' hv hS)
theorem post_of_below {H:Type} {enc:TypeId × Value→H} {P:Program} {f:Func} {s:ChangeSpec} {apart fresh handsOn again:Bool} {W W':World} {args:Array Value} {v:Value} {ds gs:List (DataW H)} {before pa pv:List MemPlace}
  (hW:DataW.Whole enc P f.params.toList s.vars apart W args.toList ds gs before)
  (hres:∀ (b:Nat) (sp:Nat→Bool) (hd:Bool),DataW.TrodAll enc P W' b sp hd f.resultTypes.toList (v.resultList f.resultTypes.size) (s.fn H (ds ++ gs)).results [])
  (hargs:∀ sp:Nat→Bool,(∀ p ∈ before,sp p.block = true)→DataW.TrodAll enc P W' 0 sp true f.params.toList args.toList (s.fn H (ds ++ gs)).args pa)
  (hvars:∀ sp:Nat→Bool,(∀ p ∈ before,sp p.block = true)→DataW.TrodVars enc P W' sp s.vars (s.fn H (ds ++ gs)).vars pv)
  (hps:before = pa ++ pv) (hb:Below W.heap.size W W')
  (hok:∀ (j:Nat) (t:TypeId) (r:Value),f.resultTypes[j]? = some t→(v.resultList f.resultTypes.size)[j]? = some r→Value.okWide P W' .any 0 t r) :
  s.post enc P f apart fresh handsOn again W args v W':=by
 have hold:∀ p ∈ before,(fun b=>decide (b < W.heap.size)) p.block = true:=fun p hp=>by simpa using hW.lt p hp
 have hlt:=hW.lt
 refine ⟨ds,gs,before,[],pa,pv,hW,hres _ _ _,hargs _ hold,hvars _ hold,World.keptBut_mono (fun p hp=>⟨hp,?_⟩) (hb.frame (· ∈ before)),fun _=>?_⟩
 ·rw [hps,List.mem_append] at hp
  exact Or.inr hp
 ·obtain ⟨_,_,_,_,_,hz,hn⟩:=hW
  refine ⟨hok,_,_,([] ++ pa) ++ pv,⟨[] ++ pa,pv,trodAll_append (hargs _ (fun _ _=>rfl)) (hres _ _ _),hvars _ (fun _ _=>rfl),rfl,?_,?_⟩,?_⟩
  ·intro b off hp
   have hpb:MemPlace.cell b off ∈ before:=by rw [hps]; simpa using hp
   rw [hb.frozen (p:=⟨b,off,none⟩) (hlt _ hpb)]
   exact hz b off hpb
  ·intro ha
   have:=hn ha
   rw [hps] at this
   simpa using this
  ·intro p hp _
   rw [hps]
   simpa using hp
end Go.Am
end

section
namespace Go.Am
open Go Go.RowKit
section
variable {P:Program} {T:Tys} {B:Nat} {φ:Emb} {H:AHeap} {w:World} {nt:Nat} {t:PT AVal} {a:Act} {ops:Array Oper} {rest:List Oper} {o:Oper} {r:Option Nat} {Q:Exit→Act→World→Prop} {ds:List ADef}
end
def nums (l:List UInt8) :List Nat:=l.map UInt8.toNat
theorem vrel_nums {φ:Emb} (l:List UInt8) :VRel φ (.str (nums l)) (.string ⟨l.toArray⟩):=by
 refine ⟨?_,fun x hx=>?_⟩
 ·congr 2
  have:(UInt8.ofNat ∘ UInt8.toNat) = id:=by funext b; simp
  simp [nums,this]
 ·obtain ⟨y,_,rfl⟩:=List.mem_map.1 hx
  exact y.toNat_lt
section
variable {P:Program} {T:Tys} {B:Nat} {φ:Emb} {H:AHeap} {w:World}
theorem Below.wide {a b c:World} (h:Below a.heap.size a b) (h':Below b.heap.size b c) :Below a.heap.size a c:=h.trans (h'.mono h.size)
end
end Go.Am
end
