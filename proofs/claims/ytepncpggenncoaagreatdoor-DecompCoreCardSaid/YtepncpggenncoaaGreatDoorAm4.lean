import Derived.Test.YtepncpggenncoaaGreatDoorAm3
import Derived.Laws.Cover3
import Derived.WideLaws
import Derived.LaidEql
import Derived.Laws.BytesString
set_option linter.unusedSimpArgs false
set_option linter.unusedVariables false
set_option maxHeartbeats 8000000
namespace Go.Am
open Go Go.RowKit
section
variable{P:Program}{T:Tys}{B:Nat}{φ:Emb}{H:AHeap}{w:World}{nt:Nat}{t:PT AVal}{a:Act}
theorem q0y(hH:HRel T B φ H w)(ht:TRel φ nt t a.tmps){o:Oper}{op:UnOp}{ty:TypeId}{x:Operand}(ho:o.op=.unOp op ty x){ax:AOpnd}(hx:opnd T x=some ax)
  {v:AVal} (h:quiet t H (.un op ax)=some v) :∃ u,(execOp a.eval o).run P w=.ok (.value u) w/\VRel φ v u:=by
 simp only[quiet]at h
 have hxv:=z0m hH ht hx
 split at h
 .rename_i b e
  cases h
  rw[e]at hxv
  exact⟨_,by simp[execOp,ho,VRel.bool_inv hxv,Op.unary],rfl⟩
 .rename_i k n e
  cases h
  rw[e]at hxv
  refine⟨_,by simp[execOp,ho,VRel.int_inv hxv,Op.unary,Op.intArith];rfl,?_⟩
  simp[VRel,z3v,y5x]
 .rename_i k n e
  rw[e]at hxv
  have hm:y0f k=(if k.signed then -1 else k.max):=by
   cases k<;>rfl
  rw[hm]at h
  obtain⟨u,h1,h2⟩:=j7w (P:=P) (w:=w) (φ:=φ) (ty:=0) h
  refine⟨u,?_,h2⟩
  have h3:(Op.unary .xor (.int k n)).run P w=.ok u w:=by
   simpa[Op.unary,binOp]using h1
  simp only[execOp,ho,VRel.int_inv hxv,Sem.run_bind,h3,Result.andThen_ok,Sem.run_pure]
 .cases h
theorem j1m(hT:TOk T P)(hH:HRel T B φ H w)(ht:TRel φ nt t a.tmps){o:Oper}{s:TypeId}{x:Operand}{f:Nat}(ho:o.op=.fieldAddr s x f){ax:AOpnd}(hx:opnd T x=some ax)
  {fs:Array Field} {fd:Field} {n:Nat} (hs:T.und s=some (.struct fs)) (hf:fs[f]? = some fd) (hn:T.size fd.type=some (n+1))
  {v:AVal} (h:quiet t H (.fieldAddr fd.offset ax)=some v) :∃ u,(execOp a.eval o).run P w=.ok (.value u) w/\VRel φ v u:=by
 simp only[quiet]at h
 have hxv:=z0m hH ht hx
 split at h
 .rename_i b off e
  cases h
  rw[e]at hxv
  obtain⟨y,hy,e2⟩:=hxv
  refine⟨.pointer (some ⟨y.c,y.s+(off+fd.offset),none⟩),?_,y,hy,rfl⟩
  simp[execOp,ho,Instr.fieldAt,hT.run_und hs,hf,e2,Instr.sureAddr,fieldPlace,hT.run_size hn,z24,Nat.add_assoc]
 .cases h
theorem y4b(hT:TOk T P)(hH:HRel T B φ H w)(ht:TRel φ nt t a.tmps){o:Oper}{ty e:TypeId}{x i:Operand}(ho:o.op=.indexAddr ty x i){ax ai:AOpnd}(hx:opnd T x=some ax)(hi:opnd T i=some ai)
  {sz:Nat} (hs:T.und ty=some (.slice e)) (hn:T.size e=some sz)
  {v:AVal} (h:quiet t H (.idxS sz ax ai)=some v) :∃ u,(execOp a.eval o).run P w=.ok (.value u) w/\VRel φ v u:=by
 simp only[quiet]at h
 have hxv:=z0m hH ht hx
 have hiv:=z0m hH ht hi
 split at h
 .rename_i b off len cap z n e1 e2
  split at h
  .rename_i hlt
   cases h
   have hlt':n<len:=by simpa using hlt
   rw[e1]at hxv
   obtain⟨y,ad,cap',hy,e3,hc1,hc2,hc3⟩:=hxv
   obtain⟨k,e4⟩:=z5v e2 hiv
   have had:ad=⟨y.c,y.s+off,none⟩:=by
    rcases hc3 with⟨_,_,h | h⟩ | ⟨_,h,_⟩ | ⟨_,h⟩
    .exact h
    .omega
    .exact h
    .omega
   refine⟨.pointer (some ⟨y.c,y.s+(off+n*sz),none⟩),?_,y,hy,rfl⟩
   have hnn:(0:Int)<=n/\(n:Int)<len:=⟨by omega,by omega⟩
   simp[execOp,ho,Instr.indexAt,asIntOf,e4,hT.run_und hs,e3,hT.run_size hn,hlt',had,z24,Nat.add_assoc]
  .cases h
 .cases h
theorem y4c(hT:TOk T P)(hH:HRel T B φ H w)(ht:TRel φ nt t a.tmps){o:Oper}{ty e:TypeId}{x i:Operand}(ho:o.op=.indexAddr ty x i){ax ai:AOpnd}(hx:opnd T x=some ax)(hi:opnd T i=some ai)
  {sz len:Nat} (hs:T.und ty=some (.array len e)) (hn:T.size e=some sz)
  {v:AVal} (h:quiet t H (.idxA len sz ax ai)=some v) :∃ u,(execOp a.eval o).run P w=.ok (.value u) w/\VRel φ v u:=by
 simp only[quiet]at h
 have hxv:=z0m hH ht hx
 have hiv:=z0m hH ht hi
 split at h
 .rename_i b off n e1 e2
  split at h
  .rename_i hlt
   cases h
   have hlt':n<len:=by simpa using hlt
   rw[e1]at hxv
   obtain⟨y,hy,e3⟩:=hxv
   obtain⟨k,e4⟩:=z5v e2 hiv
   refine⟨.pointer (some ⟨y.c,y.s+(off+n*sz),none⟩),?_,y,hy,rfl⟩
   simp[execOp,ho,Instr.indexAt,asIntOf,e4,hT.run_und hs,e3,Instr.sureAddr,hT.run_size hn,hlt',z24,Nat.add_assoc]
  .cases h
 .cases h
theorem j7b(hT:TOk T P)(hH:HRel T B φ H w)(ht:TRel φ nt t a.tmps){o:Oper}{s:TypeId}{x:Operand}{f:Nat}(ho:o.op=.field s x f){ax:AOpnd}(hx:opnd T x=some ax)
  {fs:Array Field} {fd:Field} (hs:T.und s=some (.struct fs)) (hf:fs[f]? = some fd) (hg:T.isAgg fd.type=some false)
  {v:AVal} (h:quiet t H (.field1 fd.offset ax)=some v) :∃ u,(execOp a.eval o).run P w=.ok (.value u) w/\VRel φ v u:=by
 simp only[quiet]at h
 have hxv:=z0m hH ht hx
 split at h
 .rename_i l e
  rw[e]at hxv
  obtain⟨vs,e2,hl⟩:=hxv
  rw[z5x]at h
  obtain⟨u,hu,hv⟩:=hl.get h
  have hu':vs[fd.offset]? = some u:=by simpa using hu
  exact⟨u,by simp[execOp,ho,Instr.field,hT.run_und hs,hf,e2,asAgg,part,hT.run_isAgg hg,hu'],hv⟩
 .cases h
theorem j7a(hT:TOk T P)(hH:HRel T B φ H w)(ht:TRel φ nt t a.tmps){o:Oper}{s:TypeId}{x:Operand}{f:Nat}(ho:o.op=.field s x f){ax:AOpnd}(hx:opnd T x=some ax)
  {fs:Array Field} {fd:Field} {n:Nat} (hs:T.und s=some (.struct fs)) (hf:fs[f]? = some fd) (hg:T.isAgg fd.type=some true) (hn:T.size fd.type=some n)
  {v:AVal} (h:quiet t H (.fieldN fd.offset n ax)=some v) :∃ u,(execOp a.eval o).run P w=.ok (.value u) w/\VRel φ v u:=by
 simp only[quiet]at h
 have hxv:=z0m hH ht hx
 split at h
 .rename_i l e
  rw[e]at hxv
  obtain⟨vs,e2,hl⟩:=hxv
  split at h
  .rename_i l' hl'
   cases h
   obtain⟨e3,e4⟩:=z9d hl'
   refine⟨.agg (vs.extract fd.offset (fd.offset+n)),by simp[execOp,ho,Instr.field,hT.run_und hs,hf,e2,asAgg,part,hT.run_isAgg hg,hT.run_size hn],_,rfl,?_⟩
   rw[e3]
   have:=(hl.drop fd.offset).take n
   simpa[Array.toList_extract,List.extract_eq_take_drop]using this
  .cases h
 .cases h
theorem j68(hT:TOk T P)(hH:HRel T B φ H w)(ht:TRel φ nt t a.tmps){o:Oper}{ty:TypeId}{x i:Operand}(ho:o.op=.index ty x i){ax ai:AOpnd}(hx:opnd T x=some ax)(hi:opnd T i=some ai)
  (hs:T.und ty=some .string) {v:AVal} (h:quiet t H (.idxStr ax ai)=some v) :∃ u,(execOp a.eval o).run P w=.ok (.value u) w/\VRel φ v u:=by
 simp only[quiet]at h
 have hxv:=z0m hH ht hx
 have hiv:=z0m hH ht hi
 split at h
 .rename_i s n e1 e2
  split at h
  .rename_i c r hd
   cases h
   rw[e1]at hxv
   obtain⟨e3,hlt⟩:=VRel.str_inv hxv
   obtain⟨k,e4⟩:=z5v e2 hiv
   have hget:s[n]? = some c:=by
    have:=congrArg List.head? hd
    simpa using this
   have hc:c<256:=hlt c (List.mem_of_getElem? hget)
   have hidx:(strV s)[n]? = some (UInt8.ofNat c):=by
    have hn:n<s.length:=by
     rcases Nat.lt_or_ge n s.length with h | h
     .exact h
     .rw[List.getElem?_eq_none h]at hget;cases hget
    have hsz:n<(strV s).size:=by rw[z4i];exact hn
    rw[getElem?_pos (strV s) n hsz]
    congr 1
    show((s.map UInt8.ofNat).toArray)[n]'(by simpa using hn)=_
    simp
    rw[List.getElem?_eq_getElem hn]at hget
    cases hget
    rfl
   refine⟨.int .u8 c,?_,rfl⟩
   have:(UInt8.ofNat c).toNat=c:=by simp;omega
   simp[execOp,ho,Instr.index,asIntOf,e4,hT.run_und hs,e3,hidx]
   omega
  .cases h
 .cases h
theorem j69(hT:TOk T P)(hH:HRel T B φ H w)(ht:TRel φ nt t a.tmps){o:Oper}{ty e:TypeId}{x i:Operand}(ho:o.op=.index ty x i){ax ai:AOpnd}(hx:opnd T x=some ax)(hi:opnd T i=some ai)
  {len:Nat} (hs:T.und ty=some (.array len e)) (hg:T.isAgg e=some false) (hn:T.size e=some 1) {v:AVal} (h:quiet t H (.idxArr len ax ai)=some v) :∃ u,(execOp a.eval o).run P w=.ok (.value u) w/\VRel φ v u:=by
 simp only[quiet]at h
 have hxv:=z0m hH ht hx
 have hiv:=z0m hH ht hi
 split at h
 .rename_i l n e1 e2
  split at h
  .rename_i hlt
   have hlt':n<len:=by simpa using hlt
   rw[e1]at hxv
   obtain⟨vs,e3,hl⟩:=hxv
   obtain⟨k,e4⟩:=z5v e2 hiv
   rw[z5x]at h
   obtain⟨u,hu,hv⟩:=hl.get h
   have hu':vs[n]? = some u:=by simpa using hu
   exact⟨u,by simp[execOp,ho,Instr.index,asIntOf,e4,hT.run_und hs,e3,hlt',hT.run_size hn,part,hT.run_isAgg hg,hu'],hv⟩
  .cases h
 .cases h
theorem y35(hT:TOk T P)(hH:HRel T B φ H w)(ht:TRel φ nt t a.tmps){o:Oper}{ty e:TypeId}{x:Operand}(ho:o.op=.sliceToArrayPointer ty x){ax:AOpnd}(hx:opnd T x=some ax)
  {n:Nat} (hs:T.und ty=some (.array n e)) (hn:n≠0) {v:AVal} (h:quiet t H (.s2ap n ax)=some v) :∃ u,(execOp a.eval o).run P w=.ok (.value u) w/\VRel φ v u:=by
 simp only[quiet]at h
 have hxv:=z0m hH ht hx
 split at h
 .rename_i b off len cap z e1
  split at h
  .rename_i hle
   cases h
   have hle':n<=len:=Nat.le_of_ble_eq_true hle
   rw[e1]at hxv
   obtain⟨y,ad,cap',hy,e3,hc1,hc2,hc3⟩:=hxv
   have had:ad=⟨y.c,y.s+off,none⟩:=by
    rcases hc3 with⟨_,_,h | h⟩ | ⟨_,h,_⟩ | ⟨_,h⟩
    .exact h
    .omega
    .exact h
    .omega
   refine⟨.pointer (some ⟨y.c,y.s+off,none⟩),?_,y,hy,rfl⟩
   simp[execOp,ho,Instr.arrayAt,hT.run_und hs,e3,had]
   omega
  .cases h
 .cases h
theorem y61(hT:TOk T P)(hH:HRel T B φ H w)(ht:TRel φ nt t a.tmps){o:Oper}{ty:TypeId}{x:Operand}(ho:o.op=.makeInterface ty x){ax:AOpnd}(hx:opnd T x=some ax)
  {d:TypeDesc} (hs:T.und ty=some d) (hd:∀ ms,d≠.interface ms) :∃ u,(execOp a.eval o).run P w=.ok (.value u) w/\VRel φ (.iface ty (ax.ev t)) u:=by
 refine⟨.iface ty (a.eval x),?_,_,rfl,z0m hH ht hx⟩
 simp only[execOp,ho,Instr.makeInterface,Sem.run_bind,hT.run_und hs,Result.andThen_ok]
 cases d<;>first | rfl | exact absurd rfl (hd _)
theorem y62(hH:HRel T B φ H w)(ht:TRel φ nt t a.tmps){o:Oper}{f:FuncId}{p c:Array Operand}(ho:o.op=.makeFunc (.func f) p c){ap ac:List AOpnd}(hp:z7i T p.toList=some ap)(hc:z7i T c.toList=some ac) :
  ∃ u,(execOp a.eval o).run P w=.ok (.value u) w/\VRel φ (.func f (evs t ap) (evs t ac)) u:=by
 refine⟨.func (.func f) (p.map a.eval) (c.map a.eval),by simp[execOp,ho,Instr.makeFunc],_,_,rfl,?_,?_⟩
 .simpa using z4x hH ht hp
 .simpa using z4x hH ht hc
theorem j4v(hH:HRel T B φ H w)(ht:TRel φ nt t a.tmps){o:Oper}{x:Operand}{i:Nat}(ho:o.op=.extract x i){ax:AOpnd}(hx:opnd T x=some ax)
  {v:AVal} (h:quiet t H (.extract ax i)=some v) :∃ u,(execOp a.eval o).run P w=.ok (.value u) w/\VRel φ v u:=by
 simp only[quiet]at h
 have hxv:=z0m hH ht hx
 split at h
 .rename_i l e
  rw[e]at hxv
  obtain⟨vs,e2,hl⟩:=hxv
  rw[z5x]at h
  obtain⟨u,hu,hv⟩:=hl.get h
  have hu':vs[i]? = some u:=by simpa using hu
  exact⟨u,by simp[execOp,ho,Instr.extract,e2,hu'],hv⟩
 .cases h
end
section
variable{P:Program}{T:Tys}{B:Nat}{φ:Emb}{H:AHeap}{w:World}{nt:Nat}{t:PT AVal}{a:Act}
theorem z9r:∀ {l:List AVal} {s:List Nat} {us:List Value},Am.bytesOf l=some s->LRel φ l us->us=s.map fun n=>Value.int .u8 (n:Nat)
 | [],s,us,h,hl=>by simp[Am.bytesOf]at h;subst h;exact hl
 | v::l,s,us,h,hl=>by
  obtain⟨u,us',rfl,h1,h2⟩:=hl
  unfold Am.bytesOf at h
  split at h
  .rename_i e;cases e
  .rename_i n l' e
   cases e
   split at h
   .rename_i s' hs'
    cases h
    rw[z9r hs' h2]
    simp only[List.map_cons]
    rw[VRel.int_inv h1]
    rfl
   .cases h
  .cases h
theorem j4a{s:List Nat}(h:(s.all fun n=>Nat.blt n 256)=true) :∀ x∈s,x<256:=by
 intro x hx
 have:=List.all_eq_true.1 h x hx
 simpa using this
theorem j86(hT:TOk T P)(hH:HRel T B φ H w)(ht:TRel φ nt t a.tmps){o:Oper}{s d:TypeId}{x:Operand}(ho:o.op=.convert s d x){ax:AOpnd}(hx:opnd T x=some ax)
  {j k:IntKind} (hs:T.und s=some (.int j)) (hd:T.und d=some (.int k)) {v:AVal} (h:quiet t H (.conv (.toInt k) ax)=some v) :∃ u,(execOp a.eval o).run P w=.ok (.value u) w/\VRel φ v u:=by
 simp only[quiet]at h
 have hxv:=z0m hH ht hx
 split at h
 .rename_i q n e2
  cases h
  rw[e2]at hxv
  refine⟨.int k (k.wrap n),by simp[execOp,ho,convert,hT.run_und hs,hT.run_und hd,VRel.int_inv hxv,Conv.intToInt],?_⟩
  rw[z3v];rfl
 .cases h
theorem y34(hT:TOk T P)(hH:HRel T B φ H w)(ht:TRel φ nt t a.tmps){o:Oper}{s d:TypeId}{x:Operand}(ho:o.op=.convert s d x){ax:AOpnd}(hx:opnd T x=some ax)
  (hs:T.und s=some .string) (hd:T.und d=some .string) {v:AVal} (h:quiet t H (.conv .same ax)=some v) :∃ u,(execOp a.eval o).run P w=.ok (.value u) w/\VRel φ v u:=by
 simp only[quiet]at h
 have hxv:=z0m hH ht hx
 split at h
 .rename_i s' e2
  cases h
  rw[e2]at hxv
  obtain⟨e3,h3⟩:=VRel.str_inv hxv
  exact⟨.string (strV s'),by simp[execOp,ho,convert,hT.run_und hs,hT.run_und hd,e3],rfl,h3⟩
 .cases h
theorem y1u:∀ (s acc:List Nat),(s.map fun(n:Nat)=>(n:Int)).foldl (fun(r:ByteArray) (n:Int)=>r.push (UInt8.ofNat n.toNat)) (strV acc)=strV (acc++s)
 | [],acc=>by simp
 | n::s,acc=>by
  have hp:(strV acc).push (UInt8.ofNat (n:Int).toNat)=strV (acc++[n]):=by
   apply ByteArray.ext
   show Array.push _ _=_
   simp[strV]
  rw[List.map_cons,List.foldl_cons,hp,y1u s (acc++[n])]
  simp
theorem j2v(hT:TOk T P)(hH:HRel T B φ H w)(ht:TRel φ nt t a.tmps){o:Oper}{s d e:TypeId}{x:Operand}(ho:o.op=.convert s d x){ax:AOpnd}(hx:opnd T x=some ax)
  (hs:T.und s=some (.slice e)) (hd:T.und d=some .string) (he:T.und e=some (.int .u8)) {v:AVal} (h:quiet t H (.conv .bytesStr ax)=some v) :∃ u,(execOp a.eval o).run P w=.ok (.value u) w/\VRel φ v u:=by
 simp only[quiet]at h
 have hxv:=z0m hH ht hx
 split at h
 .rename_i e2
  cases h
  rw[e2]at hxv
  have:a.eval x=.slice none 0 0:=hxv
  exact⟨.string .empty,by simp[execOp,ho,convert,hT.run_und hs,hT.run_und hd,this,hT.run_und he,Conv.bytesToString],rfl,by simp⟩
 .rename_i b off len cap z e2
  split at h
  .rename_i l hl
   split at h
   .rename_i s' hs'
    split at h
    .rename_i hlt
     cases h
     rw[e2]at hxv
     obtain⟨y,ad,cap',hy,e3,hc1,hc2,hc3⟩:=hxv
     obtain⟨us,g1,g2,g3,g4⟩:=z3z (P:=P) hH hy hl
     have hus:=z9r hs' g2
     have hlt':=j4a hlt
     refine⟨.string (strV s'),?_,rfl,hlt'⟩
     have z04:(loadCells ad len).run P w=.ok us.toArray w:=by
      have zero:len=0->(loadCells ad len).run P w=.ok us.toArray w:=by
       intro h0
       subst h0
       have:us=[]:=by simpa using g1
       subst this
       rfl
      rcases hc3 with⟨_,_,h | h⟩ | ⟨_,h,_⟩ | ⟨_,h⟩
      .rw[h];exact g4
      .exact zero (by omega)
      .rw[h];exact g4
      .exact zero (by omega)
     have key:(Conv.bytesToString (.slice (some ad) len cap')).run P w=.ok (.string (strV s')) w:=by
      rw[run_bytesToString w ad len cap' (s'.map fun(n:Nat)=>(n:Int)) (by rw[z04,hus];simp[Function.comp_def])]
      have:=y1u s' []
      simp only[List.nil_append]at this
      rw[<-this]
      rfl
     simp only[execOp,ho,convert,Sem.run_bind,hT.run_und hs,hT.run_und hd,e3,Result.andThen_ok,hT.run_und he,key,Sem.run_pure]
    .cases h
   .cases h
  .cases h
 .cases h
theorem z2a(hH:HRel T B φ H w)(ht:TRel φ nt t a.tmps){x:Option Operand}{ax:Option AOpnd}(hx:z5e T x=some ax){dflt most n:Nat}(h:z08 t ax dflt most=some n) :
  (ax=none/\x=none/\n=dflt)\/∃ k o ao,x=some o/\ax=some ao/\a.eval o=.int k (n:Nat)/\n<=most:=by
 cases x with
 | none=>simp[z5e]at hx;subst hx;simp[z08]at h;exact .inl ⟨rfl,rfl,h.symm⟩
 | some o =>
  simp only[z5e]at hx
  split at hx
  .rename_i ao hao
   cases hx
   simp only[z08]at h
   split at h
   .rename_i m hm
    split at h
    .rename_i hle
     cases h
     obtain⟨k,e⟩:=z5v hm (z0m hH ht hao)
     exact .inr ⟨k,o,ao,rfl,rfl,e,Nat.le_of_ble_eq_true hle⟩
    .cases h
   .cases h
  .cases hx
theorem j2s{k:IntKind}{n y:Nat}{c:BoundsCode}(h:n<=y) :(Instr.sliceBound (.int k (n:Nat)) y c).run P w=.ok n w:=by
 simp[Instr.sliceBound,asIntOf,h]
theorem z17(hH:HRel T B φ H w)(ht:TRel φ nt t a.tmps){lo hi mx:Option Operand}{al ah am:Option AOpnd}(hl:z5e T lo=some al)(hh:z5e T hi=some ah)(hm:z5e T mx=some am)
  {isS:Bool} {len cap m h l:Nat} (h1:z08 t am cap cap=some m) (h2:z08 t ah len m=some h) (h3:z08 t al 0 h=some l) (hlm:am=none->ah=none->len<=cap) (hmh:am.isSome=true->ah.isSome=true) :
  (Instr.sliceBounds isS len cap (lo.map a.eval) (hi.map a.eval) (mx.map a.eval)).run P w=.ok (l,h,m) w/\(am=none->m=cap)/\m<=cap/\l<=h/\(ah≠none\/am=none->(ah=none->h=len)/\(ah≠none->h<=m)):=by
 rcases z2a hH ht hm h1 with⟨rfl,rfl,rfl⟩ | ⟨k1,o1,a1,rfl,rfl,e1,g1⟩<;>rcases z2a hH ht hh h2 with⟨rfl,rfl,rfl⟩ | ⟨k2,o2,a2,rfl,rfl,e2,g2⟩ <;>
  rcases z2a hH ht hl h3 with⟨rfl,rfl,rfl⟩ | ⟨k3,o3,a3,rfl,rfl,e3,g3⟩ <;>
  first
   | (simp at hmh;done)
   | (refine⟨by simp[Instr.sliceBounds, *,j2s],by simp,by omega,by omega,by simp<;>omega⟩)
theorem j65(hT:TOk T P)(hH:HRel T B φ H w)(ht:TRel φ nt t a.tmps){o:Oper}{ty e:TypeId}{x:Operand}{lo hi mx:Option Operand}(ho:o.op=.slice ty x lo hi mx){ax:AOpnd}(hx:opnd T x=some ax)
  {al ah am:Option AOpnd} (hl:z5e T lo=some al) (hh:z5e T hi=some ah) (hm:z5e T mx=some am) (hmh:am.isSome=true->ah.isSome=true)
  {sz:Nat} (hs:T.und ty=some (.slice e)) (hn:T.size e=some sz) (hz:sz≠0)
  {v:AVal} (h:quiet t H (.slice (.sl sz) ax al ah am)=some v) :∃ u,(execOp a.eval o).run P w=.ok (.value u) w/\VRel φ v u:=by
 simp only[quiet]at h
 have hxv:=z0m hH ht hx
 generalize he:ax.ev t=xv at h hxv
 unfold z0w at h
 split at h
 .cases ‹ASlk.sl sz=ASlk.str›
 ·
  rename_i e1
  have hv:a.eval x=.slice none 0 0:=hxv
  split at h
  .rename_i m h1
   split at h
   .rename_i hh' h2
    split at h
    .rename_i l h3
     cases h
     have hm0:m=0:=by rcases z2a hH ht hm h1 with⟨_,_,e⟩ | ⟨_,_,_,_,_,_,e⟩<;>omega
     subst hm0
     have hh0:hh'=0:=by rcases z2a hH ht hh h2 with⟨_,_,e⟩ | ⟨_,_,_,_,_,_,e⟩<;>omega
     subst hh0
     have hl0:l=0:=by rcases z2a hH ht hl h3 with⟨_,_,e⟩ | ⟨_,_,_,_,_,_,e⟩<;>omega
     subst hl0
     obtain⟨r1,_⟩:=z17 (P:=P) hH ht hl hh hm (isS:=true) (len:=0) (cap:=0) h1 h2 h3 (fun _ _=>lr) hmh
     exact⟨.slice none 0 0,by simp[execOp,ho,Instr.sliceAt,hT.run_und hs,Instr.slice,hv,r1,hT.run_size hn],rfl⟩
    .cases h
   .cases h
  .cases h
 ·
  rename_i sz' b off len cap e1
  cases e1
  obtain⟨y,ad,cap',hy,e3,hc1,hc2,hc3⟩:=hxv
  have hc4:cap'=cap/\(ad=⟨y.c,y.s+off,none⟩\/cap=0):=by
   rcases hc3 with⟨_,h,h'⟩ | ⟨h,_⟩ | ⟨h,_⟩
   .exact⟨h,h'⟩
   .exact absurd rfl h
   .exact absurd rfl h
  obtain⟨rfl,hc5⟩:=hc4
  split at h
  .rename_i m h1
   split at h
   .rename_i hh' h2
    split at h
    .rename_i l h3
     obtain⟨r1,r2,r3,r4,r5⟩:=z17 (P:=P) hH ht hl hh hm (isS:=true) h1 h2 h3 (fun _ _=>hc1) hmh
     have hhm:hh'<=m:=by
      rcases z2a hH ht hh h2 with⟨q1,_,q2⟩ | ⟨_,_,_,_,_,_,q2⟩
      .have:am=none:=by
        cases am with
        | none=>rfl
        | some z=>rw[q1]at hmh;simp at hmh
       have:=r2 this
       omega
      .exact q2
     have hrun:(execOp a.eval o).run P w=.ok (.value (.slice (some (if m=l then ad else ad.add (l*sz))) (hh'-l) (m-l))) w:=by
      simp only[execOp,ho,Instr.sliceAt,Sem.run_bind,hT.run_und hs,Result.andThen_ok,Instr.slice,e3,r1,hT.run_size hn,Sem.run_pure]
      split<;>rfl
     split at h
     .rename_i hml
      have hml':=Nat.eq_of_beq_eq_true hml
      cases h
      refine⟨_,hrun,y,_,_,hy,rfl,?_,lr,.inl ⟨rfl,rfl,.inr ?_⟩⟩
      .show hh'-l<=m-l;omega
      .show m-l=0;omega
     .rename_i hml
      have hml':m≠l:=fun e=>by rw[e,Nat.beq_refl]at hml;cases hml
      cases h
      refine⟨_,hrun,y,_,_,hy,rfl,?_,lr,.inl ⟨rfl,rfl,.inl ?_⟩⟩
      .show hh'-l<=m-l;omega
      .have had:ad=⟨y.c,y.s+off,none⟩:=by
        rcases hc5 with h | h
        .exact h
        .omega
       rw[if_neg hml',had,z24]
       show(⟨_,_,_⟩ :Addr)=⟨y.c,y.s+(off+l*sz),none⟩
       rw[Nat.add_assoc]
    .cases h
   .cases h
  .cases h
 ·
  rename_i sz' b off len cap k e1
  cases e1
  split at h
  .rename_i hk
   have hk':k+1=sz:=Nat.eq_of_beq_eq_true hk
   subst hk'
   obtain⟨y,ad,cap',hy,e3,hc1,hc2,hc3⟩:=hxv
   have hc4:(ad=⟨y.c,y.s+off,none⟩/\y.s+off+cap'*(k+1)<=y.k/\cap'<=9223372036854775807)\/cap'=0:=by
    rcases hc3 with⟨h,_⟩ | ⟨_,h,h'⟩ | ⟨_,h⟩
    .cases h
    .exact .inl ⟨h,h'⟩
    .exact .inr h
   split at h
   .rename_i m h1
    split at h
    .rename_i hh' h2
     split at h
     .rename_i l h3
      split at h
      ·
       cases h
       have hmx:mx=none:=by
        cases mx with
        | none=>rfl
        | some z=>simp[z5e]at hm;split at hm<;>cases hm
       subst hmx
       have hmc:m=cap:=by simp[z08]at h1;exact h1.symm
       subst hmc
       have h2':z08 t ah len cap'=some hh':=by
        unfold z08 at h2 ⊢
        split at h2
        .exact h2
        .rename_i ao
         split at h2
         .rename_i n1 hn1
          split at h2
          .rename_i hle
           cases h2
           have:=Nat.le_of_ble_eq_true hle
           rw[Nat.ble_eq_true_of_le (Nat.le_trans this hc2)]
          .cases h2
         .cases h2
       have hhm:hh'<=m:=by
        rcases z2a hH ht hh h2 with⟨_,_,q2⟩ | ⟨_,_,_,_,_,_,q2⟩
        .omega
        .exact q2
       obtain⟨r1,r2,r3,r4,r5⟩:=z17 (P:=P) hH ht hl hh hm (isS:=true) (len:=len) (cap:=cap') (m:=cap') rfl h2' h3 (fun _ _=>by omega) hmh
       have hrun:(execOp a.eval o).run P w=.ok (.value (.slice (some (if cap'=l then ad else ad.add (l*(k+1)))) (hh'-l) (cap'-l))) w:=by
        simp only[execOp,ho,Instr.sliceAt,Sem.run_bind,hT.run_und hs,Result.andThen_ok,Instr.slice,e3,r1,hT.run_size hn,Sem.run_pure]
        split<;>rfl
       refine⟨_,hrun,y,_,_,hy,rfl,?_,?_,?_⟩
       .show hh'-l<=m-l;omega
       .show m-l<=cap'-l;omega
       .by_cases hcl:cap'=l
        .exact .inr (.inr ⟨Nat.succ_ne_zero k,by omega⟩)
        .rcases hc4 with⟨q1,q2⟩ | q1
         .refine .inr (.inl ⟨Nat.succ_ne_zero k,?_,?_⟩)
          .rw[if_neg hcl,q1,z24]
           show(⟨_,_,_⟩ :Addr)=⟨y.c,y.s+(off+l*(k+1)),none⟩
           rw[Nat.add_assoc]
          .show y.s+(off+l*(k+1))+(cap'-l)*(k+1)<=y.k/\cap'-l<=9223372036854775807
           have:l*(k+1)+(cap'-l)*(k+1)=cap'*(k+1):=by
            rw[<-Nat.add_mul];congr 1;omega
           omega
         .omega
      ·
       rename_i z
       obtain⟨q1,q2,q3⟩ :True/\m<=cap/\(∃ k o ao,mx=some o/\some z=some ao/\a.eval o=.int k (m:Nat)):=by
        rcases z2a hH ht hm h1 with⟨q,_⟩ | ⟨k1,o1,a1,q1,q2,q3,q4⟩
        .cases q
        .exact⟨trivial,q4,k1,o1,a1,q1,q2,q3⟩
       have h1':z08 t (some z) cap' cap'=some m:=by
        unfold z08 at h1 ⊢
        simp only at h1 ⊢
        split at h1
        .rename_i n1 hn1
         split at h1
         .rename_i hle
          cases h1
          have:=Nat.le_of_ble_eq_true hle
          rw[Nat.ble_eq_true_of_le (Nat.le_trans this hc2)]
         .cases h1
        .cases h1
       obtain⟨r1,r2,r3,r4,r5⟩:=z17 (P:=P) hH ht hl hh hm (isS:=true) (len:=len) (cap:=cap') h1' h2 h3 (fun q _=>by cases q) hmh
       have hhm:hh'<=m:=by
        rcases z2a hH ht hh h2 with⟨p1,_,_⟩ | ⟨_,_,_,_,_,_,p2⟩
        .rw[p1]at hmh;simp at hmh
        .exact p2
       have hrun:(execOp a.eval o).run P w=.ok (.value (.slice (some (if m=l then ad else ad.add (l*(k+1)))) (hh'-l) (m-l))) w:=by
        simp only[execOp,ho,Instr.sliceAt,Sem.run_bind,hT.run_und hs,Result.andThen_ok,Instr.slice,e3,r1,hT.run_size hn,Sem.run_pure]
        split<;>rfl
       split at h
       .rename_i hml
        have hml':=Nat.eq_of_beq_eq_true hml
        cases h
        refine⟨_,hrun,y,_,_,hy,rfl,?_,lr,.inl ⟨rfl,rfl,.inr ?_⟩⟩
        .show hh'-l<=m-l;omega
        .show m-l=0;omega
       .rename_i hml
        have hml':m≠l:=fun e=>by rw[e,Nat.beq_refl]at hml;cases hml
        cases h
        refine⟨_,hrun,y,_,_,hy,rfl,?_,lr,.inl ⟨rfl,rfl,.inl ?_⟩⟩
        .show hh'-l<=m-l;omega
        .have had:ad=⟨y.c,y.s+off,none⟩:=by
          rcases hc4 with⟨h,_⟩ | h
          .exact h
          .omega
         rw[if_neg hml',had,z24]
         show(⟨_,_,_⟩ :Addr)=⟨y.c,y.s+(off+l*(k+1)),none⟩
         rw[Nat.add_assoc]
     .cases h
    .cases h
   .cases h
  .cases h
 .cases ‹ASlk.sl sz=ASlk.arr _ _›
 .cases h
end
section
variable{P:Program}{T:Tys}{B:Nat}{φ:Emb}{H:AHeap}{w:World}{nt:Nat}{t:PT AVal}{a:Act}
theorem z9x(s:List Nat)(l h:Nat)(_hl:l<=h) :(strV s).extract l h=strV (j3b s l h):=by
 apply ByteArray.ext
 apply Array.ext'
 rw[ByteArray.data_extract,Array.toList_extract,List.extract_eq_take_drop]
 show _=(((s.drop l).take (h-l)).map UInt8.ofNat)
 simp[strV,List.map_take,List.map_drop]
theorem j2t(hT:TOk T P)(hH:HRel T B φ H w)(ht:TRel φ nt t a.tmps){o:Oper}{ty:TypeId}{x:Operand}{lo hi mx:Option Operand}(ho:o.op=.slice ty x lo hi mx){ax:AOpnd}(hx:opnd T x=some ax)
  {al ah am:Option AOpnd} (hl:z5e T lo=some al) (hh:z5e T hi=some ah) (hm:z5e T mx=some am) (hs:T.und ty=some .string)
  {v:AVal} (h:quiet t H (.slice .str ax al ah am)=some v) :∃ u,(execOp a.eval o).run P w=.ok (.value u) w/\VRel φ v u:=by
 simp only[quiet]at h
 have hxv:=z0m hH ht hx
 generalize he:ax.ev t=xv at h hxv
 unfold z0w at h
 split at h
 .rename_i s _
  split at h
  .split at h
   .rename_i hh' h2
    split at h
    .rename_i l h3
     cases h
     have hmx:mx=none:=by
      cases mx with
      | none=>rfl
      | some z=>simp[z5e]at hm;split at hm<;>cases hm
     subst hmx
     obtain⟨e3,hlt⟩:=VRel.str_inv hxv
     obtain⟨r1,r2,r3,r4,r5⟩:=z17 (P:=P) (mx:=none) (am:=none) hH ht hl hh rfl (isS:=false) (len:=s.length) (cap:=s.length) (m:=s.length) rfl h2 h3 (fun _ _=>lr) (fun q=>by simp at q)
     refine⟨.string (strV (j3b s l hh')),?_,rfl,?_⟩
     .simp only[Option.map_none]at r1
      simp only[execOp,ho,Instr.sliceAt,Sem.run_bind,hT.run_und hs,Result.andThen_ok,Instr.slice,e3,Option.map_none,Option.isSome_none,Bool.false_eq_true,if_false,Sem.run_pure,z4i,r1,z9x s l hh' r4]
     .intro z hz
      exact hlt z (List.mem_of_mem_drop (List.mem_of_mem_take hz))
    .cases h
   .cases h
  .cases h
 all_goals first | (cases h;done) | (cases ‹ASlk.str=ASlk.sl _›;done) | (cases ‹ASlk.str=ASlk.arr _ _›;done) | skip
theorem j66(hT:TOk T P)(hH:HRel T B φ H w)(ht:TRel φ nt t a.tmps){o:Oper}{ty e:TypeId}{x:Operand}{lo hi mx:Option Operand}(ho:o.op=.slice ty x lo hi mx){ax:AOpnd}(hx:opnd T x=some ax)
  {al ah am:Option AOpnd} (hl:z5e T lo=some al) (hh:z5e T hi=some ah) (hm:z5e T mx=some am) (hmh:am.isSome=true->ah.isSome=true)
  {n sz:Nat} (hs:T.und ty=some (.array n e)) (hn:T.size e=some sz)
  {v:AVal} (h:quiet t H (.slice (.arr n sz) ax al ah am)=some v) :∃ u,(execOp a.eval o).run P w=.ok (.value u) w/\VRel φ v u:=by
 simp only[quiet]at h
 have hxv:=z0m hH ht hx
 generalize he:ax.ev t=xv at h hxv
 unfold z0w at h
 split at h
 all_goals first | (cases h;done) | (cases ‹ASlk.arr _ _=ASlk.sl _›;done) | (cases ‹ASlk.arr _ _=ASlk.str›;done) | skip
 rename_i n' sz' b off e1
 cases e1
 obtain⟨y,hy,e3⟩:=hxv
 split at h
 .rename_i m h1
  split at h
  .rename_i hh' h2
   split at h
   .rename_i l h3
    obtain⟨r1,r2,r3,r4,r5⟩:=z17 (P:=P) hH ht hl hh hm (isS:=false) h1 h2 h3 (fun _ _=>lr) hmh
    have hhm:hh'<=m:=by
     rcases z2a hH ht hh h2 with⟨q1,_,q2⟩ | ⟨_,_,_,_,_,_,q2⟩
     .have:am=none:=by
       cases am with
       | none=>rfl
       | some z=>rw[q1]at hmh;simp at hmh
      have:=r2 this
      omega
     .exact q2
    have hrun:(execOp a.eval o).run P w=.ok (.value (.slice (some (if m=l then⟨y.c,y.s+off,none⟩else(⟨y.c,y.s+off,none⟩ :Addr).add (l*sz))) (hh'-l) (m-l))) w:=by
     simp only[execOp,ho,Instr.sliceAt,Sem.run_bind,hT.run_und hs,Result.andThen_ok,e3,Instr.sureAddr,r1,hT.run_size hn,Sem.run_pure]
    split at h
    .rename_i hml
     have hml':=Nat.eq_of_beq_eq_true hml
     cases h
     refine⟨_,hrun,y,_,_,hy,rfl,?_,lr,.inl ⟨rfl,rfl,.inr ?_⟩⟩
     .show hh'-l<=m-l;omega
     .show m-l=0;omega
    .rename_i hml
     have hml':m≠l:=fun e=>by rw[e,Nat.beq_refl]at hml;cases hml
     cases h
     refine⟨_,hrun,y,_,_,hy,rfl,?_,lr,.inl ⟨rfl,rfl,.inl ?_⟩⟩
     .show hh'-l<=m-l;omega
     .rw[if_neg hml',z24]
      show(⟨_,_,_⟩ :Addr)=⟨y.c,y.s+(off+l*sz),none⟩
      rw[Nat.add_assoc]
   .cases h
  .cases h
 .cases h
theorem z6n.length{es:List (AVal×AVal)}{es':Array MapEntry}{clock:Nat}(h:z6n φ es es' clock) :es'.size=es.length:=by
 obtain⟨⟨l,p1,p2,p3⟩,_⟩:=h
 have:=p1.length_eq
 have h2:=p2.length
 simp at h2 this
 omega
theorem y4a(hT:TOk T P)(hH:HRel T B φ H w)(ht:TRel φ nt t a.tmps){x:Operand}{ax:AOpnd}(hx:opnd T x=some ax){ty:TypeId}(hs:T.und ty=some .string){v:AVal}(h:quiet t H (.len 0 ax)=some v)
  {ats:Array TypeId} (h0:ats[0]? = some ty) {ty2:TypeId} {xs:Array Value} (hx0:xs[0]? = some (a.eval x)) :∃ r,(Builtin.len_ ats ty2 xs).run P w=.ok r w/\VRel φ v r:=by
 simp only[quiet]at h
 have hxv:=z0m hH ht hx
 split at h
 .rename_i s e1
  cases h
  rw[e1]at hxv
  obtain⟨e,_⟩:=VRel.str_inv hxv
  exact⟨goInt s.length,by simp[Builtin.len_,h0,hx0,hT.run_und hs,e,z4i],rfl⟩
 .cases h
theorem y39(hT:TOk T P)(hH:HRel T B φ H w)(ht:TRel φ nt t a.tmps){x:Operand}{ax:AOpnd}(hx:opnd T x=some ax){ty e0:TypeId}(hs:T.und ty=some (.slice e0)){v:AVal}(h:quiet t H (.len 1 ax)=some v)
  {ats:Array TypeId} (h0:ats[0]? = some ty) {ty2:TypeId} {xs:Array Value} (hx0:xs[0]? = some (a.eval x)) :∃ r,(Builtin.len_ ats ty2 xs).run P w=.ok r w/\VRel φ v r:=by
 simp only[quiet]at h
 have hxv:=z0m hH ht hx
 split at h
 .rename_i e1
  cases h
  rw[e1]at hxv
  have e:a.eval x=.slice none 0 0:=hxv
  exact⟨goInt 0,by simp[Builtin.len_,h0,hx0,hT.run_und hs,e],rfl⟩
 .rename_i b o n c z e1
  cases h
  rw[e1]at hxv
  obtain⟨y,ad,c,hy,e,_⟩:=hxv
  exact⟨goInt n,by simp[Builtin.len_,h0,hx0,hT.run_und hs,e],rfl⟩
 .cases h
theorem z2s{r:Nat}{o:Obj}(h:w.heap[r]? = some o)(hc:∀ c e f,o≠.cells c e f) :(getObj r).run P w=.ok o w:=by
 cases o<;>first
  | exact absurd rfl (hc _ _ _)
  | (simp only[getObj,Sem.run,h])
theorem j95{o:Option AObj}{es:List (AVal×AVal)}(h:z3n o=some es) :o=some (.map es)\/o=some (.rmap es):=by
 cases o with
 | none=>cases h
 | some o=>cases o<;>first | (cases h;done) | (cases h;first | exact .inl rfl | exact .inr rfl)
theorem j33(hH:HRel T B φ H w){b:Pos}{y:Place}(hy:φ b=some y){es:List (AVal×AVal)}(h:z3n (PT.get b H.t)=some es) :∃ es' clock,w.heap[y.c]? = some (.map es' clock)/\z6n φ es es' clock:=by
 rcases j95 h with h | h
 .obtain⟨es',clock,g1,g2,_⟩:=hH.obj b _ y h hy
  exact⟨es',clock,g1,g2⟩
 .exact hH.obj b _ y h hy
theorem y38(hT:TOk T P)(hH:HRel T B φ H w)(ht:TRel φ nt t a.tmps){x:Operand}{ax:AOpnd}(hx:opnd T x=some ax){ty k0 e0:TypeId}(hs:T.und ty=some (.map k0 e0)){v:AVal}(h:quiet t H (.len 2 ax)=some v)
  {ats:Array TypeId} (h0:ats[0]? = some ty) {ty2:TypeId} {xs:Array Value} (hx0:xs[0]? = some (a.eval x)) :∃ r,(Builtin.len_ ats ty2 xs).run P w=.ok r w/\VRel φ v r:=by
 simp only[quiet]at h
 have hxv:=z0m hH ht hx
 split at h
 .rename_i e1
  cases h
  rw[e1]at hxv
  have e:a.eval x=.map none:=hxv
  exact⟨goInt 0,by simp[Builtin.len_,h0,hx0,hT.run_und hs,e],rfl⟩
 .rename_i b e1
  rw[e1]at hxv
  obtain⟨y,hy,e⟩:=hxv
  split at h
  .rename_i es hb
   cases h
   obtain⟨es',clock,h1,h2⟩:=j33 hH hy hb
   refine⟨goInt es.length,?_,rfl⟩
   simp[Builtin.len_,h0,hx0,hT.run_und hs,e,z2s h1 (by simp),h2.length]
  .cases h
 .cases h
theorem y13(isMax:Bool) :∀ {l:List AVal} {us:List Value} {x v:AVal} {u:Value},VRel φ x u->LRel φ l us->mmA isMax x l=some v →
  ∃ r,(us.foldlM (if isMax then Builtin.max2 else Builtin.min2) u:Sem Value).run P w=.ok r w/\VRel φ v r
 | [],us,x,v,u,hx,hl,h=>by
  simp only[mmA]at h
  cases h
  have:us=[]:=hl
  subst this
  exact⟨u,by simp,hx⟩
 | b::l,us,x,v,u,hx,hl,h=>by
  obtain⟨ub,us',rfl,h1,h2⟩:=hl
  unfold mmA at h
  split at h
  .rename_i e;cases e
  .rename_i k q j r l' e
   cases e
   split at h
   .rename_i hk
    have hk':=z6r.1 hk
    subst hk'
    have hxu:u=.int k q:=hx
    have hbu:ub=.int k r:=h1
    subst hxu;subst hbu
    cases isMax
    .simp only at h
     obtain⟨z,g1,g2⟩:=y13 false (u:=.int k (if r<q then r else q)) (by
      show _=_
      congr 1
      rw[j3t]
      by_cases hlt:r<q<;>simp[hlt]) h2 h
     exact⟨z,by simpa[List.foldlM_cons,Builtin.min2]using g1,g2⟩
    .simp only at h
     obtain⟨z,g1,g2⟩:=y13 true (u:=.int k (if r>q then r else q)) (by
      show _=_
      congr 1
      rw[j3t]
      by_cases hlt:q<r<;>simp[hlt]) h2 h
     exact⟨z,by simpa[List.foldlM_cons,Builtin.max2]using g1,g2⟩
   .cases h
  .cases h
end
inductive All2 {α β:Type} (R:α->β->Prop) :List α->List β->Prop
 | nil:All2 R [] []
 | cons {a:α} {b:β} {l:List α} {m:List β} (h:R a b) (t:All2 R l m) :All2 R (a::l) (b::m)
section
variable{P:Program}{T:Tys}{B:Nat}{φ:Emb}{H:AHeap}{w:World}{nt:Nat}{t:PT AVal}{a:Act}
theorem z65{x:AVal}{vs:List AVal}{u:Value}(h:z1w x=some vs)(hx:VRel φ x u) :LRel φ vs u.cells.toList:=by
 unfold z1w at h
 split at h
 .cases h
  obtain⟨ws,rfl,hl⟩:=hx
  exact hl
 .cases h
 .rename_i hna hnany
  cases h
  have:u.cells=#[u]:=by
   cases x<;>first
    | exact absurd rfl (hna _)
    | exact absurd rfl hnany
    | (simp only[VRel]at hx;first | (subst hx;rfl) | (obtain⟨rfl,_⟩:=hx;rfl) | (obtain⟨_,_,rfl⟩:=hx;rfl) | (obtain⟨_,rfl,_⟩:=hx;rfl) | (obtain⟨_,_,_,_,rfl,_⟩:=hx;rfl) | (obtain⟨_,_,rfl,_⟩:=hx;rfl))
  rw[this]
  exact⟨u,[],rfl,hx,rfl⟩
theorem z28{v:Value}{z:AVal}(h:z5t v=some z) :LRel φ (z3e z) v.cells.toList:=by
 refine z65 (x:=z) ?_ (z4h h)
 unfold z5t at h
 split at h
 .split at h<;>cases h;rfl
 .split at h<;>cases h;rfl
 .split at h<;>cases h;rfl
 .unfold j8c at h
  split at h<;>cases h<;>rfl
theorem y6g:∀ (vs:List Value) (off k:Nat) (arr:Array Value) (i:Nat),off+k+vs.length<=arr.size →
  ((vs.zipIdx k).foldl (fun(cs:Array Value) (p:Value×Nat)=>cs.setIfInBounds (off+p.2) p.1) arr)[i]? = (if off+k<=i/\i<off+k+vs.length then vs[i-(off+k)]? else arr[i]?) ∧
  ((vs.zipIdx k).foldl (fun(cs:Array Value) (p:Value×Nat)=>cs.setIfInBounds (off+p.2) p.1) arr).size=arr.size
 | [],off,k,arr,i,_=>by simp;omega
 | v::vs,off,k,arr,i,h=>by
  simp only[List.length_cons]at h
  have ih:=y6g vs off (k+1) (arr.setIfInBounds (off+k) v) i (by simp;omega)
  simp only[List.zipIdx_cons,List.foldl_cons]
  refine⟨?_,by rw[ih.2];simp⟩
  rw[ih.1]
  simp only[List.length_cons]
  by_cases h1:off+(k+1)<=i/\i<off+(k+1)+vs.length
  .rw[if_pos h1,if_pos (by omega)]
   obtain⟨m,hm⟩ :∃ m,i-(off+k)=m+1:=⟨i-(off+k)-1,by omega⟩
   rw[hm,List.getElem?_cons_succ]
   congr 1
   omega
  .rw[if_neg h1]
   by_cases h0:i=off+k
   .subst h0
    have:off+k<arr.size:=by omega
    rw[if_pos (by omega)]
    simp[this]
   .rw[if_neg (by omega),Array.getElem?_setIfInBounds_ne (fun e=>h0 e.symm)]
theorem j5r{place:Nat->Option (Nat×Nat)} :∀ {ps:List (Nat×Value)} {aps:List (Nat×Nat×AOpnd)} {z l:List AVal} {cells:Array Value},
  LRel φ z cells.toList->(All2 (fun(p:Nat×Value) (q:Nat×Nat×AOpnd)=>place p.1=some (q.1,q.2.1)/\VRel φ (q.2.2.ev t) p.2) ps aps)->z32 z t aps=some l →
  ∃ cells',Instr.fill place cells ps=some cells'/\LRel φ l cells'.toList
 | [],_,z,l,cells,hz,hp,h=>by
  cases hp
  simp[z32]at h
  exact⟨cells,rfl,h▸hz⟩
 | (i,v)::ps,_,z,l,cells,hz,hp,h=>by
  cases hp with
  | cons h1 h2 =>
   rename_i q aps
   obtain⟨off,size,x⟩:=q
   simp only[z32]at h
   split at h
   .rename_i vs hvs
    split at h
    .rename_i hsz
     split at h
     .rename_i z' hz'
      have hvl:=z65 hvs h1.2
      have hlen:=hvl.length
      have hsz':=Nat.eq_of_beq_eq_true hsz
      have hzl:=hz.length
      obtain⟨e1,e2⟩:=j1y _ _ _ _ hz'
      simp at hlen hzl
      have hs:=fun i=>y6g v.cells.toList off 0 cells i (by simp;omega)
      have hcond:(v.cells.size≠size || off+v.cells.size>cells.size)=false:=by
       simp
       constructor
       .omega
       .omega
      obtain⟨cells',g1,g2⟩:=j5r (z:=z') (cells:=v.cells.zipIdx.foldl (fun cs (c,j)=>cs.setIfInBounds (off+j) c) cells) (by
       have conv:v.cells.zipIdx.foldl (fun(cs:Array Value) (p:Value×Nat)=>cs.setIfInBounds (off+p.2) p.1) cells=(v.cells.toList.zipIdx 0).foldl (fun(cs:Array Value) (p:Value×Nat)=>cs.setIfInBounds (off+p.2) p.1) cells:=by
        rw[<-Array.foldl_toList,Array.toList_zipIdx]
       show LRel φ z' (v.cells.zipIdx.foldl (fun(cs:Array Value) (p:Value×Nat)=>cs.setIfInBounds (off+p.2) p.1) cells).toList
       rw[conv]
       apply LRel.of_get
       .rw[Array.length_toList,(hs 0).2,j1x hz'];omega
       .intro i aa u ha hu
        rw[y19 hz']at ha
        have hu':((v.cells.toList.zipIdx 0).foldl (fun(cs:Array Value) (p:Value×Nat)=>cs.setIfInBounds (off+p.2) p.1) cells)[i]? = some u:=by simpa using hu
        rw[(hs i).1]at hu'
        simp only[aZ,Array.length_toList]at hu'
        by_cases hi:off<=i/\i<off+vs.length
        .rw[if_pos hi]at ha
         rw[if_pos (by omega)]at hu'
         obtain⟨u2,k1,k2⟩:=hvl.get ha
         rw[k1]at hu'
         cases hu'
         exact k2
        .rw[if_neg hi]at ha
         rw[if_neg (by omega)]at hu'
         obtain⟨u2,k1,k2⟩:=hz.get ha
         have:cells[i]? = some u2:=by simpa using k1
         rw[this]at hu'
         cases hu'
         exact k2) h2 h
      refine⟨cells',?_,g2⟩
      simp only[Instr.fill,h1.1,hcond,Bool.false_eq_true,if_false]
      exact g1
     .cases h
    .cases h
   .cases h
theorem j7h(hH:HRel T B φ H w)(ht:TRel φ nt t a.tmps){fs:List Field}{place:Nat->Option (Nat×Nat)}(hp:∀ i f s,fs[i]? = some f->T.size f.type=some s->place i=some (f.offset,s)) :
  ∀ {ps:List (Nat×Operand)} {aps:List (Nat×Nat×AOpnd)},j3o T fs ps=some aps →
  All2 (fun(p:Nat×Value) (q:Nat×Nat×AOpnd)=>place p.1=some (q.1,q.2.1)/\VRel φ (q.2.2.ev t) p.2) (ps.map fun p=>(p.1,a.eval p.2)) aps
 | [],aps,h=>by simp[j3o]at h;subst h;exact .nil
 | (i,x)::ps,aps,h=>by
  simp only[j3o]at h
  split at h
  .rename_i f hf
   split at h
   .rename_i s b m e1 e2 e3
    cases h
    exact .cons ⟨hp i f s hf e1,z0m hH ht e2⟩ (j7h hH ht hp e3)
   .cases h
  .cases h
theorem j1t(hH:HRel T B φ H w)(ht:TRel φ nt t a.tmps){size:Nat} :
  ∀ {ps:List (Nat×Operand)} {aps:List (Nat×Nat×AOpnd)},z92 T size ps=some aps →
  All2 (fun(p:Nat×Value) (q:Nat×Nat×AOpnd)=>(fun i=>some (i*size,size)) p.1=some (q.1,q.2.1)/\VRel φ (q.2.2.ev t) p.2) (ps.map fun p=>(p.1,a.eval p.2)) aps
 | [],aps,h=>by simp[z92]at h;subst h;exact .nil
 | (i,x)::ps,aps,h=>by
  simp only[z92]at h
  split at h
  .rename_i b m e2 e3
   cases h
   exact .cons ⟨rfl,z0m hH ht e2⟩ (j1t hH ht e3)
  .cases h
theorem j3f(hT:TOk T P) :∀ (fs:List Field),(fs.all fun(f:Field)=>(T.size f.type).isSome)=true →
  (fs.mapM fun(f:Field)=>(do pure (f.offset,<-sizeOf f.type) :Sem (Nat×Nat))).run P w=.ok (fs.map fun(f:Field)=>(f.offset,(T.size f.type).getD 0)) w
 | [],_=>by simp
 | f::fs,h=>by
  simp only[List.all_cons,Bool.and_eq_true]at h
  obtain⟨s,hs⟩:=Option.isSome_iff_exists.1 h.1
  have ih:=j3f hT fs h.2
  simp only[List.mapM_cons,Sem.run_bind,hT.run_size hs,Result.andThen_ok,Sem.run_pure,ih,List.map_cons,hs,Option.getD_some]
theorem j7c(hT:TOk T P)(hH:HRel T B φ H w)(ht:TRel φ nt t a.tmps){o:Oper}{ty:TypeId}{ps:Array (Nat×Operand)}(ho:o.op=.build ty ps){z:AVal}(hz:z3c T ty=some z)
  {fs:Array Field} (hs:T.und ty=some (.struct fs)) {aps:List (Nat×Nat×AOpnd)} (hp:j3o T fs.toList ps.toList=some aps) (hall:(fs.toList.all fun f=>(T.size f.type).isSome)=true)
  {v:AVal} (h:quiet t H (.build (z3e z) aps)=some v) :∃ u,(execOp a.eval o).run P w=.ok (.value u) w/\VRel φ v u:=by
 simp only[quiet]at h
 split at h
 .rename_i l hl
  cases h
  obtain⟨zv,e1,e2⟩:=hT.run_zero hz w
  have hpl:(fs.mapM fun(f:Field)=>(do pure (f.offset,<-sizeOf f.type) :Sem (Nat×Nat))).run P w=.ok (fs.map fun(f:Field)=>(f.offset,(T.size f.type).getD 0)) w:=by
   rw[Array.mapM_eq_mapM_toList]
   simp only[Sem.run_map,j3f hT fs.toList hall,Result.andThen_ok]
   congr 1
   apply Array.ext'
   simp
  obtain⟨cells',g1,g2⟩:=j5r (z28 e2) (j7h (place:=fun i=>(fs.map fun(f:Field)=>(f.offset,(T.size f.type).getD 0))[i]?) hH ht (fun i f s hf hsz=>by
   have:fs[i]? = some f:=by simpa using hf
   simp[this,hsz]) hp) hl
  refine⟨.agg cells',?_,cells',rfl,g2⟩
  have hlist:(ps.map fun(i,x)=>(i,a.eval x)).toList=ps.toList.map fun p=>(p.1,a.eval p.2):=by simp
  simp only[execOp,ho,Instr.build,Sem.run_bind,e1,Result.andThen_ok,hT.run_und hs,hpl,hlist,g1,Sem.run_pure]
 .cases h
theorem j7d(hT:TOk T P)(hH:HRel T B φ H w)(ht:TRel φ nt t a.tmps){o:Oper}{ty e:TypeId}{n s:Nat}{ps:Array (Nat×Operand)}(ho:o.op=.build ty ps){z:AVal}(hz:z3c T ty=some z)
  (hs:T.und ty=some (.array n e)) (hsz:T.size e=some s) {aps:List (Nat×Nat×AOpnd)} (hp:z92 T s ps.toList=some aps)
  {v:AVal} (h:quiet t H (.build (z3e z) aps)=some v) :∃ u,(execOp a.eval o).run P w=.ok (.value u) w/\VRel φ v u:=by
 simp only[quiet]at h
 split at h
 .rename_i l hl
  cases h
  obtain⟨zv,e1,e2⟩:=hT.run_zero hz w
  obtain⟨cells',g1,g2⟩:=j5r (place:=fun i=>some (i*s,s)) (z28 e2) (j1t hH ht hp) hl
  refine⟨.agg cells',?_,cells',rfl,g2⟩
  have hlist:(ps.map fun(i,x)=>(i,a.eval x)).toList=ps.toList.map fun p=>(p.1,a.eval p.2):=by simp
  simp only[execOp,ho,Instr.build,Sem.run_bind,e1,Result.andThen_ok,hT.run_und hs,hT.run_size hsz,hlist,g1,Sem.run_pure]
 .cases h
end
end Go.Am
