import Derived.Test.YtepncpggenncoaaGreatDoorAm5
import Derived.Laws.NewFold
set_option linter.unusedSimpArgs false
set_option linter.unusedVariables false
set_option maxHeartbeats 8000000
namespace Go.Am
open Go Go.RowKit
section
variable{P:Program}{T:Tys}{B:Nat}{φ:Emb}{H:AHeap}{w:World}{nt:Nat}{t:PT AVal}{a:Act}
def Does(P:Program)(T:Tys)(B:Nat)(φ:Emb)(H:AHeap)(w:World)(m:Sem Next)(v:AVal)(H':AHeap) :Prop :=
 ∃ nx u w' φ',m.run P w=.ok nx w'/\(nx=.value u\/(nx=.skip/\u=undef))/\VRel φ' v u/\Sim T B φ H w φ' H' w'
def j6d(P:Program)(φ:Emb)(w:World)(m:Sem Next)(l:List AVal)(vf:Pos->AVal) :Prop :=
 ∃ u arr e,m.run P w=.ok (.value u) (w.alloc (.cells arr e))/\(∀ (i:Nat) (a:AVal),l[i]? = some a->∃ v,arr[i]? = some v/\VRel φ a v)/\l.length<=arr.size ∧
  ∀ (φ':Emb) b,φ' b=some ⟨w.heap.size,0,arr.size⟩->VRel φ' (vf b) u
theorem j6d.does(hH:HRel T B φ H w){m:Sem Next}{l:List AVal}{vf:Pos->AVal}(h:j6d P φ w m l vf)(op:Bool) :
  Does P T B φ H w m (vf H.nx) (H.new (.cells l op false)).2:=by
 obtain⟨u,arr,e,h1,h2,h3,h4⟩:=h
 exact⟨_,u,_,φ.put H.nx ⟨w.heap.size,0,arr.size⟩,h1,.inl rfl,h4 _ _ (Emb.put_same _ _ _),Sim.new hH _ _ _ (ORel.cells_new hH.base h2 h3 op)⟩
theorem j6d.lays(hH:HRel T B φ H w){m:Sem Next}{l:List AVal}{vf:Pos->AVal}(h:j6d P φ w m l vf){p:Pos}(hp:φ p=none){op:Bool}(hg:PT.get p H.t=some (.cells l op false)) :
  ∃ u w' k,m.run P w=.ok (.value u) w'/\VRel (φ.put p ⟨w.heap.size,0,k⟩) (vf p) u/\HRel T B (φ.put p ⟨w.heap.size,0,k⟩) H w'/\Below B w w':=by
 obtain⟨u,arr,e,h1,h2,h3,h4⟩:=h
 exact⟨u,_,arr.size,h1,h4 _ _ (Emb.put_same _ _ _),hH.lay hp hg _ _ (ORel.cells_new hH.base h2 h3 op),(Below.refl B w).alloc hH.base _⟩
theorem LRel.getA{l:List AVal}{arr:Array Value}(h:LRel φ l arr.toList)(i:Nat)(a:AVal)(e:l[i]? = some a) :∃ v,arr[i]? = some v/\VRel φ a v:=by
 obtain⟨v,h1,h2⟩:=h.get e
 exact⟨v,by simpa using h1,h2⟩
theorem LRel.lengthA{l:List AVal}{arr:Array Value}(h:LRel φ l arr.toList) :l.length=arr.size:=by
 have:=h.length
 simpa using this.symm
theorem j3s(hT:TOk T P){o:Oper}{e:TypeId}(ho:o.op=.alloc e){z:AVal}(hz:z3c T e=some z) :j6d P φ w (execOp a.eval o) (z3e z) (fun b=>.ptr b 0):=by
 obtain⟨zv,e1,e2⟩:=hT.run_zero hz w
 have hl:=z28 (φ:=φ) e2
 exact⟨.pointer (some ⟨w.heap.size,0,none⟩),zv.cells,e,by simp[execOp,ho,Instr.alloc,e1,newVar,newRow],hl.getA,Nat.le_of_eq hl.lengthA,fun φ' b h=>⟨_,h,rfl⟩⟩
theorem y14(hH:HRel T B φ H w)(ht:TRel φ nt t a.tmps){o:Oper}{e:TypeId}{x:Operand}(ho:o.op=.box e x){ax:AOpnd}(hx:opnd T x=some ax){vs:List AVal}(h:z1w (ax.ev t)=some vs) :
  j6d P φ w (execOp a.eval o) vs (fun b=>.ptr b 0):=by
 have hl:=z65 h (z0m hH ht hx)
 exact⟨.pointer (some ⟨w.heap.size,0,none⟩),(a.eval x).cells,e,by simp[execOp,ho,Instr.box,newVar,newRow],hl.getA,Nat.le_of_eq hl.lengthA,fun φ' b h=>⟨_,h,rfl⟩⟩
theorem z4m(z:List AVal) :∀ n,(repl z n).length=n*z.length
 | 0=>by simp[repl]
 | n+1=>by simp[repl,z4m z n,Nat.succ_mul,Nat.add_comm]
theorem y1g(z:List AVal) :∀ (n i:Nat),i<n*z.length->(repl z n)[i]? = z[i%z.length]?
 | 0,i,h=>by simp at h
 | n+1,i,h=>by
  simp only[repl]
  by_cases hi:i<z.length
  .rw[List.getElem?_append_left hi,Nat.mod_eq_of_lt hi]
  .have hi':z.length<=i:=by omega
   have hz:0<z.length:=by
    rcases Nat.eq_zero_or_pos z.length with h0 | h0
    .rw[h0]at h;simp at h
    .exact h0
   rw[List.getElem?_append_right hi',y1g z n (i-z.length) (by rw[Nat.succ_mul]at h;omega),Nat.mod_eq_sub_mod hi']
theorem j85{z:List AVal}{zs:Array Value}(h:LRel φ z zs.toList){n m:Nat}(hm:m=n*zs.size) :
  LRel φ (repl z n) ((Array.range m).map (zs[· % zs.size]!)).toList:=by
 have hl:=h.lengthA
 apply LRel.of_get
 .simp[hm,z4m,hl]
 .intro i x v hx hv
  have hi:i<n*z.length:=by
   rcases Nat.lt_or_ge i (repl z n).length with h | h
   .rwa [z4m]at h
   .rw[List.getElem?_eq_none h]at hx;cases hx
  rw[y1g z n i hi]at hx
  obtain⟨u,hu,hr⟩:=h.getA _ _ hx
  rw[hl]at hu
  have hi':i<m:=by rw[hm,<-hl];exact hi
  simp[hi']at hv
  rw[getElem!_def,hu]at hv
  simp at hv
  rw[<-hv];exact hr
theorem TOk2.run_zero(hT:TOk2 T P){ty:TypeId}{z:AVal}(h:z3c T ty=some z)(w:World) :∃ v,(zeroValue ty).run P w=.ok v w/\z5t v=some z/\∀ n,T.size ty=some n->v.cells.size=n:=by
 obtain⟨v,h1,h2⟩:=hT.toTOk.run_zero h w
 refine⟨v,h1,h2,fun n hn=>?_⟩
 unfold Tys.size at hn
 cases hg:T.get ty with
 | none=>simp[hg]at hn
 | some i =>
  simp[hg]at hn
  have hi:=hT.info _ _ hg
  unfold zeroValue at h1
  simp only[Sem.run_bind,hT.run_info hg,Result.andThen_ok]at h1
  split at h1
  .rename_i v' hv'
   have:v'=v:=by simpa using h1
   rw[<-this,hT.zero _ _ _ hg hv',hn]
  .simp[unsupported]at h1
theorem z6o(hT:TOk2 T P)(hH:HRel T B φ H w)(ht:TRel φ nt t a.tmps){o:Oper}{ty e:TypeId}{len s:Nat}{ps:Array (Nat×Operand)}(ho:o.op=.buildSlice ty len ps){z:AVal}
  (hs:T.und ty=some (.slice e)) (hsz:T.size e=some s) (hz:z3c T e=some z) {aps:List (Nat×Nat×AOpnd)} (hp:z92 T s ps.toList=some aps) (hle:len*s<=16777216)
  {l:List AVal} (h:z32 (repl (z3e z) len) t aps=some l) :j6d P φ w (execOp a.eval o) l (fun b=>.sl b 0 len len 0):=by
 obtain⟨zv,e1,e2,e3⟩:=hT.run_zero hz w
 have hzl:=z28 (φ:=φ) e2
 have hsize:=e3 s hsz
 obtain⟨zc,hzc,hrun⟩ :∃ zc:Array Value,LRel φ (repl (z3e z) len) ((Array.range (len*s)).map (zc[· % zc.size]!)).toList ∧
   ((len*s=0/\zc=#[])\/(len*s≠0/\zc=zv.cells)):=by
  by_cases h0:len*s=0
  .refine⟨#[],?_,.inl ⟨h0,rfl⟩⟩
   have hl0:(repl (z3e z) len).length=0:=by rw[z4m,hzl.lengthA,hsize,h0]
   have:repl (z3e z) len=[]:=List.length_eq_zero_iff.1 hl0
   rw[this,h0]
   simp[LRel]
  .exact⟨zv.cells,j85 hzl (by rw[hsize]),.inr ⟨h0,rfl⟩⟩
 obtain⟨cells',g1,g2⟩:=j5r (place:=fun i=>some (i*s,s)) hzc (j1t hH ht hp) h
 refine⟨.slice (some ⟨w.heap.size,0,none⟩) len len,cells',e,?_,g2.getA,Nat.le_of_eq g2.lengthA,fun φ' b h=>⟨_,_,_,h,rfl,lr,lr,.inl ⟨rfl,rfl,.inl rfl⟩⟩⟩
 have hlist:(ps.map fun(i,x)=>(i,a.eval x)).toList=ps.toList.map fun p=>(p.1,a.eval p.2):=by simp
 have hle':¬ (len*s>2^24):=by omega
 rcases hrun with⟨h0,rfl⟩ | ⟨h0,rfl⟩
 .simp only[execOp,ho,Instr.buildSlice,Sem.run_bind,Result.andThen_ok,hT.run_und hs,hT.run_size hsz,hlist,g1,Sem.run_pure,hle',if_false,if_pos h0,newRow,run_newObj_alloc]
 .simp only[execOp,ho,Instr.buildSlice,Sem.run_bind,Result.andThen_ok,hT.run_und hs,hT.run_size hsz,hlist,g1,Sem.run_pure,hle',if_false,if_neg h0,e1,newRow,run_newObj_alloc]
theorem z95(hT:TOk2 T P)(hH:HRel T B φ H w)(ht:TRel φ nt t a.tmps){o:Oper}{ty e:TypeId}{i:TypeInfo}{x y:Operand}(ho:o.op=.makeSlice ty x y){ax ay:AOpnd}(hx:opnd T x=some ax)(hy:opnd T y=some ay)
  {z:AVal} (hs:T.und ty=some (.slice e)) (hi:T.get e=some i) (hz:z3c T e=some z) {l c:Nat} (hl:z3j (ax.ev t)=some l) (hc:z3j (ay.ev t)=some c) (h1:l<=c) (h2:c*i.bytes<=140737488355328) (h3:c<=140737488355328) :
  j6d P φ w (execOp a.eval o) (repl (z3e z) c) (fun b=>.sl b 0 l c 0):=by
 obtain⟨zv,e1,e2,e3⟩:=hT.run_zero hz w
 have hzl:=z28 (φ:=φ) e2
 have hsz:T.size e=some i.size:=by simp[Tys.size,hi]
 have hsize:=e3 _ hsz
 obtain⟨kx,hxv⟩:=z5v hl (z0m hH ht hx)
 obtain⟨ky,hyv⟩:=z5v hc (z0m hH ht hy)
 have wl:IntKind.i64.wrap (l:Int)=l:=by simp[IntKind.wrap,IntKind.signed,IntKind.bits];omega
 have wc:IntKind.i64.wrap (c:Int)=c:=by simp[IntKind.wrap,IntKind.signed,IntKind.bits];omega
 obtain⟨zc,hzc,hrun⟩ :∃ zc:Array Value,LRel φ (repl (z3e z) c) ((Array.range (c*i.size)).map (zc[· % zc.size]!)).toList ∧
   ((c*i.size=0/\zc=#[])\/(c*i.size≠0/\zc=zv.cells)):=by
  by_cases h0:c*i.size=0
  .refine⟨#[],?_,.inl ⟨h0,rfl⟩⟩
   have hl0:(repl (z3e z) c).length=0:=by rw[z4m,hzl.lengthA,hsize,h0]
   have:repl (z3e z) c=[]:=List.length_eq_zero_iff.1 hl0
   rw[this,h0]
   simp[LRel]
  .exact⟨zv.cells,j85 hzl (by rw[hsize]),.inr ⟨h0,rfl⟩⟩
 refine⟨.slice (some ⟨w.heap.size,0,none⟩) l c,_,e,?_,hzc.getA,Nat.le_of_eq hzc.lengthA,fun φ' b h=>⟨_,_,_,h,rfl,h1,lr,.inl ⟨rfl,rfl,.inl rfl⟩⟩⟩
 have hb1:¬ ((i.bytes:Int)*(c:Int)>2^48):=by
  have:(i.bytes:Int)*(c:Int)=((c*i.bytes:Nat) :Int):=by rw[Nat.mul_comm];simp
  rw[this]
  omega
 have hroom:¬ (c*i.bytes>roomBytes):=by unfold roomBytes;omega
 have n1:¬ ((c:Int)<0):=by omega
 have n2:¬ ((l:Int)<0):=by omega
 have n3:¬ ((l:Int)>c):=by omega
 rcases hrun with⟨h0,rfl⟩ | ⟨h0,rfl⟩
 .simp only[execOp,ho,Instr.makeSlice,Sem.run_bind,Result.andThen_ok,hT.run_und hs,hxv,hyv,asInt,asIntOf,Sem.run_pure,hT.run_info hi,wl,wc,n1,n2,n3,hb1,decide_false,Bool.or_false,Bool.false_eq_true,if_false,askRoom,Int.toNat_natCast,hroom,hT.run_size hsz,if_pos h0,newRow,run_newObj_alloc]
 .simp only[execOp,ho,Instr.makeSlice,Sem.run_bind,Result.andThen_ok,hT.run_und hs,hxv,hyv,asInt,asIntOf,Sem.run_pure,hT.run_info hi,wl,wc,n1,n2,n3,hb1,decide_false,Bool.or_false,Bool.false_eq_true,if_false,askRoom,Int.toNat_natCast,hroom,hT.run_size hsz,if_neg h0,e1,newRow,run_newObj_alloc]
end
section
variable{P:Program}{T:Tys}{B:Nat}{φ:Emb}{H:AHeap}{w:World}{nt:Nat}{t:PT AVal}{a:Act}
theorem PT.set_one{α:Type}(p:Pos)(x y:Option α) :PT.set p x (PT.one p y)=PT.one p x:=by
 induction p with
 | h=>rfl
 | o p ih=>simp[PT.one,PT.set,ih]
 | i p ih=>simp[PT.one,PT.set,ih]
theorem PT.set_set{α:Type}(p:Pos)(x y:Option α)(t:PT α) :PT.set p x (PT.set p y t)=PT.set p x t:=by
 induction p generalizing t with
 | h=>cases t<;>rfl
 | o p ih=>cases t with
  | l=>exact PT.set_one _ _ _
  | n a v b=>simp[PT.set,ih]
 | i p ih=>cases t with
  | l=>exact PT.set_one _ _ _
  | n a v b=>simp[PT.set,ih]
theorem Sim.turn(hH:HRel T B φ H w){b:Pos}{x:Place}(hx:φ b=some x)(hb:PT.get b H.t≠none){w':World}{o:AObj}(hlow:Below B w w')(hsz:w'.heap.size=w.heap.size)
  (hother:∀ c,c≠x.c->w'.heap[c]? = w.heap[c]?) (ho:ORel T φ B w' o x) :Sim T B φ H w φ (H.upd b o) w':=by
 refine⟨⟨Emb.le_refl _,fun p hp hn=>⟨hn,?_⟩,lr⟩,⟨fun p q y hq hy=>?_,fun p q y z hpq hp hq=>?_,fun p y hy=>?_,fun p hp=>?_,?_,hH.glob⟩,hlow⟩
 .have:b≠p:=fun e=>by rw[e]at hx;rw[hx]at hn;cases hn
  simp[AHeap.upd,PT.get_set_other _ _ _ _ this]
 .by_cases hbp:b=p
  .subst hbp
   rw[hx]at hy
   cases hy
   simp[AHeap.upd,PT.get_set_same]at hq
   subst hq
   exact ho
  .simp only[AHeap.upd,PT.get_set_other _ _ _ _ hbp]at hq
   have hne:y.c≠x.c:=hH.inj p b y x (fun e=>hbp e.symm) (by rw[hq];simp) hb hy hx
   exact(hH.obj p q y hq hy).mono (Emb.le_refl _) (hother _ hne)
 .refine hH.inj p q y z hpq ?_ ?_
  .by_cases hbp:b=p
   .subst hbp;exact hb
   .simpa[AHeap.upd,PT.get_set_other _ _ _ _ hbp]using hp
  .by_cases hbq:b=q
   .subst hbq;exact hb
   .simpa[AHeap.upd,PT.get_set_other _ _ _ _ hbq]using hq
 .rw[hsz];exact hH.low p y hy
 .by_cases hbp:b=p
  .subst hbp;exact(hH.low b x hx).1
  .exact hH.dom p (by simpa[AHeap.upd,PT.get_set_other _ _ _ _ hbp]using hp)
 .rw[hsz];exact hH.base
theorem Below.of_one{B c:Nat}{w w':World}(hc:B<=c)(h1:w'.os=w.os)(h2:w'.tape=w.tape)(h3:w'.output=w.output)(hsz:w'.heap.size=w.heap.size)(hother:∀ k,k≠c->w'.heap[k]? = w.heap[k]?) :Below B w w' :=
 ⟨h1,h2,h3,Nat.le_of_eq hsz.symm,fun k hk=>hother k (by omega)⟩
theorem y4t(hH:HRel T B φ H w){o:Oper}{ty:TypeId}(ho:o.op=.makeMap ty none) :Does P T B φ H w (execOp a.eval o) (.map H.nx) (H.new (.map [])).2:=by
 refine⟨_,.map (some w.heap.size),_,φ.put H.nx ⟨w.heap.size,0,0⟩,by simp[execOp,ho,Instr.makeMap],.inl rfl,⟨_,Emb.put_same _ _ _,rfl⟩,Sim.new hH _ (.map #[] 0) 0 ?_⟩
 exact⟨#[],0,by show(w.heap.push _)[w.heap.size]? = _;simp,j3r _,hH.base⟩
theorem y4s(hT:TOk T P)(hH:HRel T B φ H w)(ht:TRel φ nt t a.tmps){o:Oper}{ty:TypeId}{x y:Operand}(ho:o.op=.store ty x y){ax ay:AOpnd}(hx:opnd T x=some ax)(hy:opnd T y=some ay)
  {n:Nat} (hn:T.size ty=some n) {b:Pos} {off:Nat} (h1:ax.ev t=.ptr b off) {vs:List AVal} (h2:z1w (ay.ev t)=some vs) (h3:vs.length=n) {H':AHeap} (h:z05 H b off vs=some H') :
  Does P T B φ H w (execOp a.eval o) .undef H':=by
 have hxv:=z0m hH ht hx
 rw[h1]at hxv
 obtain⟨p,hp,e⟩:=hxv
 have hl:=z65 h2 (z0m hH ht hy)
 obtain⟨w',g1,g2⟩:=z7e (P:=P) hH hp h hl
 have hsz:(a.eval y).cells.size=n:=by rw[<-hl.lengthA,h3]
 exact⟨_,_,w',φ,by simp[execOp,ho,Instr.storeAt,e,Instr.sureAddr,storeVar,hT.run_size hn,hsz,g1],.inr ⟨rfl,rfl⟩,VRel.undef,g2⟩
theorem j2a(w:World)(a:Addr)(n:Nat)(k:Nat)(h:k≠a.block) :(w.freeze a n).heap[k]? = w.heap[k]?:=by
 unfold World.freeze
 split
 .rfl
 .simp only[Array.getElem?_modify]
  rw[if_neg (by omega)]
theorem j19(w:World)(a:Addr)(n:Nat) :(w.freeze a n).heap.size=w.heap.size:=by
 unfold World.freeze
 split<;>simp
theorem y83{w:World}{c:Nat}{arr:Array Value}{e:TypeId}{lo hi k:Nat}(h:w.heap[c]? = some (.cells arr e (lo,hi))) :
  (w.freeze ⟨c,k,none⟩ 1).heap[c]? = some (.cells arr e (if lo==hi then(k,k+1)else(min lo k,max hi (k+1)))):=by
 simp[World.freeze,Array.getElem?_modify,h]
theorem j9u(w:World)(a:Addr)(n:Nat) :(w.freeze a n).os=w.os/\(w.freeze a n).tape=w.tape/\(w.freeze a n).output=w.output:=by
 unfold World.freeze
 split<;>exact⟨rfl,rfl,rfl⟩
theorem Sim.mark(hH:HRel T B φ H w){b:Pos}{x:Place}(hx:φ b=some x){l:List AVal}{op:Bool}(hb:PT.get b H.t=some (.cells l op false))(o:Nat) :
  ∃ w',(markStringish ⟨x.c,o,none⟩).run P w=.ok () w'/\Sim T B φ H w φ (H.upd b (.cells l true false)) w':=by
 obtain⟨arr,e,lo,hi,h1,h2,h3,h4,h5,h6,h7⟩:=hH.obj b _ x hb hx
 refine⟨w.freeze ⟨x.c,arr.size,none⟩ 1,by simp[markStringish,World.shape?,h1],?_⟩
 have hB:=h7 rfl
 obtain⟨r1,r2,r3⟩:=j9u w ⟨x.c,arr.size,none⟩ 1
 refine Sim.turn hH hx (by rw[hb];simp) (Below.of_one hB r1 r2 r3 (j19 _ _ _) fun k hk=>j2a _ _ _ _ hk) (j19 _ _ _) (fun c hc=>j2a _ _ _ _ hc) ?_
 have hf:=y83 (k:=arr.size) h1
 by_cases hne:lo=hi
 .rw[if_pos (by simpa using hne)]at hf
  exact⟨arr,e,_,_,hf,h2,h3,h4,.inr (.inl (by rw[h2];exact lr)),fun h=>(by cases h),fun _=>hB⟩
 .rw[if_neg (by simpa using hne)]at hf
  refine⟨arr,e,_,_,hf,h2,h3,h4,?_,fun h=>(by cases h),fun _=>hB⟩
  rcases h5 with h5 | h5 | h5
  .exact absurd h5 hne
  .exact .inr (.inl (by rw[h2];omega))
  .cases h5
theorem y9o(hT:TOk T P)(hH:HRel T B φ H w)(ht:TRel φ nt t a.tmps){o:Oper}{ty e:TypeId}{x:Operand}(ho:o.op=.convert ty ty x){ax:AOpnd}(hx:opnd T x=some ax)
  (hs:T.und ty=some (.slice e)) (he:T.und e=some (.int .u8)) {b:Pos} {off len cap k:Nat} (h1:ax.ev t=.sl b off len cap k) (h2:0<cap) {l:List AVal} {op:Bool} (hb:PT.get b H.t=some (.cells l op false)) :
  Does P T B φ H w (execOp a.eval o) (.sl b off len cap k) (H.upd b (.cells l true false)):=by
 have hxv:=z0m hH ht hx
 rw[h1]at hxv
 obtain⟨p,a',cap',hp,e1,e2,e3,e4⟩:=hxv
 have ha:a'=⟨p.c,p.s+off,none⟩:=by
  rcases e4 with⟨_,_,h | h⟩ | ⟨_,h,_⟩ | ⟨_,h⟩
  .exact h
  .omega
  .exact h
  .omega
 obtain⟨w',g1,g2⟩:=Sim.mark (P:=P) hH hp hb (p.s+off)
 refine⟨_,a.eval x,w',φ,?_,.inl rfl,⟨p,a',cap',hp,e1,e2,e3,e4⟩,g2⟩
 rw[<-ha]at g1
 simp[execOp,ho,convert,hT.run_und hs,hT.run_und he,e1,g1]
theorem j8k:∀ (s:List Nat),(∀ x∈s,x<256)->LRel φ (z0b s) ((strV s).data.map fun b=>Value.int .u8 (b.toNat:Int)).toList:=by
 intro s hs
 have:((strV s).data.map fun b=>Value.int .u8 (b.toNat:Int)).toList=s.map fun n=>Value.int .u8 (n:Nat):=by
  simp only[Array.toList_map]
  show List.map _ (s.map UInt8.ofNat)=_
  rw[List.map_map]
  apply List.map_congr_left
  intro n hn
  have:=hs n hn
  simp[Nat.mod_eq_of_lt this]
 rw[this]
 clear this
 induction s with
 | nil=>simp[z0b,LRel]
 | cons n s ih=>exact⟨_,_,rfl,rfl,ih fun x hx=>hs x (List.mem_cons_of_mem _ hx)⟩
theorem z2h:∀ s,(z0b s).length=s.length
 | []=>rfl
 | n::s=>by simp[z0b,z2h s]
theorem j5j(w:World)(need old:Nat)(e:TypeId) :need<=grownCap w need old e:=by
 show need<=need+_
 exact Nat.le_add_right _ _
theorem z5q(need old:Nat)(e:TypeId) :(choose (.appendCap need old e)).run P w=.ok (grownCap w need old e) w.drew:=rfl
theorem j5w(hT:TOk T P)(hH:HRel T B φ H w)(ht:TRel φ nt t a.tmps){o:Oper}{ty ty2 e:TypeId}{x:Operand}(ho:o.op=.convert ty ty2 x){ax:AOpnd}(hx:opnd T x=some ax)
  (hs0:T.und ty=some .string) (hs:T.und ty2=some (.slice e)) (he:T.und e=some (.int .u8)) {s:List Nat} (h1:ax.ev t=.str s) (hmx:s.length<=281474976710656) :
  Does P T B φ H w (execOp a.eval o) (.sl H.nx 0 s.length s.length 1) (H.new (.cells (z0b s) true false)).2:=by
 have hxv:=z0m hH ht hx
 rw[h1]at hxv
 obtain⟨e1,hlt⟩:=VRel.str_inv hxv
 have hc:=j8k (φ:=φ) s hlt
 have hl:((strV s).data.map fun b=>Value.int .u8 (b.toNat:Int)).size=s.length:=by
  rw[<-hc.lengthA,z2h]
 have hsz:=z4i s
 have hge:=j5j w s.length 0 e
 let arr:=((strV s).data.map fun b=>Value.int .u8 (b.toNat:Int))++Array.replicate (grownCap w s.length 0 e-s.length) (Value.int .u8 0)
 have harr:arr.size=grownCap w s.length 0 e:=by simp[arr,hl];omega
 have hH2:HRel T B φ H w.drew:=hH.drawn rfl
 have hcells:∀ (i:Nat) (a:AVal),(z0b s)[i]? = some a->∃ v,arr[i]? = some v/\VRel φ a v:=by
  intro i x hi
  obtain⟨v,g1,g2⟩:=hc.getA i x hi
  refine⟨v,?_,g2⟩
  have:i<((strV s).data.map fun b=>Value.int .u8 (b.toNat:Int)).size:=by
   rcases Nat.lt_or_ge i ((strV s).data.map fun b=>Value.int .u8 (b.toNat:Int)).size with h | h
   .exact h
   .rw[Array.getElem?_eq_none h]at g1;cases g1
  simp only[arr]
  rw[Array.getElem?_append_left this]
  exact g1
 have S1:=Sim.new hH2 (.cells (z0b s) true false) (.cells arr e) arr.size (ORel.cells_new hH2.base hcells (by rw[z2h,harr];exact hge) true)
 have hsame:(H.new (.cells (z0b s) true false)).2.upd H.nx (.cells (z0b s) true false)=(H.new (.cells (z0b s) true false)).2:=by
  simp[AHeap.new,AHeap.upd,PT.set_set]
 obtain⟨w',g1,g2⟩:=Sim.mark (P:=P) S1.rel (Emb.put_same _ _ _) (AHeap.get_new H _) 0
 rw[hsame]at g2
 refine⟨_,.slice (some ⟨w.heap.size,0,none⟩) s.length (grownCap w s.length 0 e),w',φ.put H.nx ⟨w.heap.size,0,arr.size⟩,?_,.inl rfl,⟨⟨w.heap.size,0,arr.size⟩,⟨w.heap.size,0,none⟩,grownCap w s.length 0 e,Emb.put_same _ _ _,rfl,lr,hge,.inr (.inl ⟨by simp,rfl,?_,Go.grownCap_le_maxLen _ _ _ _ (by unfold maxLen;omega)⟩)⟩,?_⟩
 .have g3:(markStringish ⟨w.drew.heap.size,0,none⟩).run P (w.drew.alloc (.cells arr e))=.ok () w':=g1
  simp only[execOp,ho,convert,Sem.run_bind,hT.run_und hs0,hT.run_und hs,hT.run_und he,e1,Result.andThen_ok,Conv.stringToBytes,hsz,z5q,newRow,run_newObj_alloc,Sem.run_pure]
  rw[g3]
  rfl
 .show 0+0+_*1<=arr.size
  rw[harr];omega
 .exact(⟨Ext.refl _ _,hH2,(Below.refl B w).drew⟩ :Sim T B φ H w φ H w.drew).trans (S1.trans g2)
end
section
variable{P:Program}{T:Tys}{B:Nat}{φ:Emb}{H:AHeap}{w:World}{nt:Nat}{t:PT AVal}{a:Act}
theorem j1o{q:EqK}{k v:AVal} :∀ {es es':List (AVal×AVal)},z3i H q k v es=some es' →
  (findKey H q k es=some none/\es'=es++[(k,v)])\/(∃ es1 k' v' es2,es=es1++(k',v')::es2/\es'=es1++(k,v)::es2/\findKey H q k es=some (some v'))
 | [],es',h=>by simp[z3i]at h;subst h;exact .inl ⟨rfl,rfl⟩
 | (k',v')::es,es',h=>by
  simp only[z3i]at h
  split at h
  .rename_i he
   split at h
   .rename_i hf
    cases h
    exact .inr ⟨[],k',v',es,rfl,rfl,by simp[findKey,he,hf]⟩
   .cases h
  .rename_i he
   split at h
   .rename_i es'' hp
    cases h
    rcases j1o hp with⟨h1,rfl⟩ | ⟨es1,k1,v1,es2,rfl,rfl,h3⟩
    .exact .inl ⟨by simp[findKey,he,h1],rfl⟩
    .exact .inr ⟨(k',v')::es1,k1,v1,es2,rfl,rfl,by simp only[findKey,he];exact h3⟩
   .cases h
  .cases h
theorem j1p{q:EqK}{k kk v v0 v1:AVal}{fs2:List (AVal×AVal)}(hk:eqS H q k kk=some true) :∀ {fs1:List (AVal×AVal)},findKey H q k (fs1++(kk,v0)::fs2)=some (some v1)->z3i H q k v (fs1++(kk,v0)::fs2)=some (fs1++(k,v)::fs2)
 | [],h=>by
  simp only[List.nil_append,findKey,hk]at h
  split at h
  .rename_i hf
   simp[z3i,hk,hf]
  .cases h
 | (k1,w1)::fs1,h=>by
  simp only[List.cons_append,findKey]at h
  split at h
  .split at h
   .rename_i hf
    have:=(z4p hf).2 (kk,v0) (by simp)
    rw[hk]at this
    cases this
   .cases h
  .rename_i he
   simp only[List.cons_append,z3i,he,j1p hk h]
  .cases h
theorem z9c{α:Type}(f:α->α)(x:α)(l2:List α) :∀ l1:List α,(l1++x::l2).modify l1.length f=l1++f x::l2
 | []=>rfl
 | y::l1=>by simp[List.modify_succ_cons,z9c f x l2 l1]
theorem z8b(_hT:TOk T P){kt:TypeId}{q:EqK}(hk:z18 T kt=some q){k k':AVal}{u:Value}(hu:VRel φ k u)(h:eqS H q k k'=some true) :Instr.sameBits 10000 u u=true:=by
 unfold z18 at hk
 split at hk
 .cases hk
  simp only[eqS]at h
  split at h
  .rw[VRel.int_inv hu];simp[Instr.sameBits]
  .cases h
 .cases hk
  simp only[eqS]at h
  split at h
  .rw[(VRel.str_inv hu).1]
   have:∀ b:ByteArray,(b==b)=true:=fun b=>by rw[beq_toListBytes];simp
   simp[Instr.sameBits,this]
  .cases h
 .split at hk
  .cases hk
   simp only[eqS]at h
   have hp:∃ p,u=.pointer p:=by
    split at h
    .exact⟨_,hu⟩
    .exact⟨_,hu⟩
    .obtain⟨z,_,e⟩:=hu;exact⟨_,e⟩
    .obtain⟨z,_,e⟩:=hu;exact⟨_,e⟩
    .cases h
   obtain⟨p,rfl⟩:=hp
   simp[Instr.sameBits]
  .cases hk
 .split at hk
  .cases hk
   obtain⟨i,j,a,b,a',b',rfl,rfl,_⟩:=y21 h
   rw[j46 hu]
   simp[Instr.sameBits]
  .cases hk
 .cases hk
theorem j35{q:EqK}{k:AVal} :∀ {es es':List (AVal×AVal)},z54 H q k es=some es' →
  (findKey H q k es=some none/\es'=es)\/(∃ v',findKey H q k es=some (some v'))
 | [],es',h=>by simp[z54]at h;subst h;exact .inl ⟨rfl,rfl⟩
 | (k',v')::es,es',h=>by
  simp only[z54]at h
  split at h
  .rename_i he
   split at h
   .rename_i hf
    cases h
    exact .inr ⟨v',by simp[findKey,he,hf]⟩
   .cases h
  .rename_i he
   split at h
   .rename_i es'' hp
    cases h
    rcases j35 hp with⟨h1,rfl⟩ | ⟨v1,h3⟩
    .exact .inl ⟨by simp[findKey,he,h1],rfl⟩
    .exact .inr ⟨v1,by simp only[findKey,he];exact h3⟩
   .cases h
  .cases h
theorem j36{q:EqK}{k kk v0 v1:AVal}{fs2:List (AVal×AVal)}(hk:eqS H q k kk=some true) :∀ {fs1:List (AVal×AVal)},findKey H q k (fs1++(kk,v0)::fs2)=some (some v1)->z54 H q k (fs1++(kk,v0)::fs2)=some (fs1++fs2)
 | [],h=>by
  simp only[List.nil_append,findKey,hk]at h
  split at h
  .rename_i hf
   simp[z54,hk,hf]
  .cases h
 | (k1,w1)::fs1,h=>by
  simp only[List.cons_append,findKey]at h
  split at h
  .split at h
   .rename_i hf
    have:=(z4p hf).2 (kk,v0) (by simp)
    rw[hk]at this
    cases this
   .cases h
  .rename_i he
   simp only[List.cons_append,z54,he,j36 hk h]
  .cases h
theorem z26{r:Nat}{es:Array MapEntry}{clock:Nat}(o:Obj)(hb:w.heap[r]? = some (.map es clock)) :(setObj r o).run P w=.ok () { w with heap:=w.heap.setIfInBounds r o }:=by
 simp[setObj,Sem.run,hb]
theorem j2z(hT:TOk T P)(hH:HRel T B φ H w)(ht:TRel φ nt t a.tmps){o:Oper}{ty kt e:TypeId}{m k x:Operand}(ho:o.op=.mapUpdate ty m k x){am ak ax:AOpnd}(hm:opnd T m=some am)(hkx:opnd T k=some ak)(hx:opnd T x=some ax)
  (hs:T.und ty=some (.map kt e)) {q:EqK} (hk:z18 T kt=some q) {b:Pos} (h1:am.ev t=.map b) {es es':List (AVal×AVal)} (hb:PT.get b H.t=some (.map es)) (hfit:z3o q (ak.ev t)=true) (h:z3i H q (ak.ev t) (ax.ev t) es=some es') :
  Does P T B φ H w (execOp a.eval o) .undef (H.upd b (.map es')):=by
 have hmv:=z0m hH ht hm
 have hkv:=z0m hH ht hkx
 have hxv:=z0m hH ht hx
 rw[h1]at hmv
 obtain⟨p,hp,em⟩:=hmv
 obtain⟨arr,clock,g1,g2,g3⟩:=hH.obj b _ p hb hp
 have hg:=z2s (P:=P) g1 (by simp)
 have fin:∀ ob,ORel T φ B { w with heap:=w.heap.setIfInBounds p.c ob } (.map es') p->Sim T B φ H w φ (H.upd b (.map es')) { w with heap:=w.heap.setIfInBounds p.c ob }:=by
  intro ob ho
  have hother:∀ c,c≠p.c->({ w with heap:=w.heap.setIfInBounds p.c ob } :World).heap[c]? = w.heap[c]?:=fun c hc=>by
   show(w.heap.setIfInBounds p.c ob)[c]? = _
   rw[Array.getElem?_setIfInBounds_ne (fun e=>hc e.symm)]
  exact Sim.turn hH hp (by rw[hb];simp) (Below.of_one g3 rfl rfl rfl (by simp) hother) (by simp) hother ho
 have hin:p.c<w.heap.size:=(hH.low b p hp).2
 rcases j1o h with⟨hf,rfl⟩ | ⟨es1,k',v',es2,rfl,rfl,hf⟩
 .obtain⟨i1,i2⟩:=z2f hT hH g2 hk hkv hf
  refine⟨_,_,_,φ,?_,.inr ⟨rfl,rfl⟩,VRel.undef,fin (.map (arr.push { key:=a.eval k,val:=a.eval x,born:=clock }) (clock+1)) ?_⟩
  .simp[execOp,ho,Instr.mapUpdate,hT.run_und hs,em,hg,z07 hT hk hkv hfit,i1,z26 _ g1]
  .obtain⟨⟨l,p1,p2,p3⟩,n1,n2,n3⟩:=g2
   refine⟨arr.push { key:=a.eval k,val:=a.eval x,born:=clock },clock+1,by show(w.heap.setIfInBounds p.c _)[p.c]? = _;simp[hin],⟨⟨l++[{ key:=a.eval k,val:=a.eval x,born:=clock }],by simpa using p1.append_right _,?_,?_⟩,?_,?_,?_⟩,g3⟩
   .simp only[List.map_append];exact p2.append ⟨_,_,rfl,hkv,rfl⟩
   .simp only[List.map_append];exact p3.append ⟨_,_,rfl,hxv,rfl⟩
   .simp only[Array.toList_push,List.map_append,List.map_cons,List.map_nil]
    refine List.nodup_append.2 ⟨n1,by simp,?_⟩
    intro y hy z hz hyz
    simp at hz
    obtain⟨e',he',rfl⟩:=List.mem_map.1 hy
    have:=n2 e' he'
    omega
   .intro e' he'
    simp at he'
    rcases he' with he' | rfl
    .have:=n2 e' (by simpa using he');omega
    .simp
   .simp only[Array.toList_push,List.map_append,List.map_cons,List.map_nil]
    refine List.nodup_append.2 ⟨n3,by simp,?_⟩
    intro y hy z hz hyz
    simp at hz
    obtain⟨e',he',rfl⟩:=List.mem_map.1 hy
    exact i2 e' he' (by rw[hyz,hz])
 .obtain⟨E1,e0,E2,fs1,kk,fs2,l1,l2,i1,i2,i3,i4,i5,i6,i7,i8,i9,i10,i11,i12⟩:=z2f hT hH g2 hk hkv hf
  have hsb:=z8b hT hk hkv i6
  have hat:arr[E1.length]? = some e0:=by
   rw[<-Array.getElem?_toList,i1];simp
  have hstay:(Instr.keyThatStays (((arr[E1.length]?).map (·.key)).getD (a.eval k)) (a.eval k)).run P w=.ok (a.eval k) w:=by
   simp[hat,i4,Instr.keyThatStays,hsb]
  rw[i5,j1p i6 (i5▸hf)]at h
  have h:=Option.some.inj h
  rw[<-h]at fin ⊢
  let e1:MapEntry:={ e0 with key:=a.eval k,val:=a.eval x }
  have hmod:arr.modify E1.length (fun e=>{ e with key:=a.eval k,val:=a.eval x })=(E1++e1::E2).toArray:=by
   apply Array.ext'
   rw[Array.toList_modify,i1,z9c]
  refine⟨_,_,_,φ,?_,.inr ⟨rfl,rfl⟩,VRel.undef,fin (.map (E1++e1::E2).toArray clock) ?_⟩
  .simp only[execOp,ho,Instr.mapUpdate,Sem.run_bind,hT.run_und hs,em,hg,Result.andThen_ok,z07 hT hk hkv hfit,i2,hstay,hmod,z26 _ g1,Sem.run_pure]
  .obtain⟨_,n1,n2,n3⟩:=g2
   have hperm:(l1++e1::l2).Perm (E1++e1::E2):=by
    rw[i1]at i7
    have h1:(l1++l2).Perm (E1++E2):=(List.perm_cons e0).1 ((List.perm_middle.symm.trans i7).trans List.perm_middle)
    exact(List.perm_middle.trans (h1.cons e1)).trans List.perm_middle.symm
   have hborn:(E1++e1::E2).map (·.born)=arr.toList.map (·.born):=by rw[i1];simp[e1]
   have hkeys:(E1++e1::E2).map (·.key)=arr.toList.map (·.key):=by rw[i1];simp[e1,i4]
   refine⟨(E1++e1::E2).toArray,clock,by show(w.heap.setIfInBounds p.c _)[p.c]? = _;simp[hin],⟨⟨l1++e1::l2,by simpa using hperm,?_,?_⟩,by simpa[hborn]using n1,?_,by simpa[hkeys]using n3⟩,g3⟩
   .simp only[List.map_append,List.map_cons];exact i8.append ⟨_,_,rfl,hkv,i9⟩
   .simp only[List.map_append,List.map_cons];exact i10.append ⟨_,_,rfl,hxv,i11⟩
   .intro e' he'
    have:e'.born∈(E1++e1::E2).map (·.born):=List.mem_map.2 ⟨e',by simpa using he',rfl⟩
    rw[hborn]at this
    obtain⟨e2,h2,h3⟩:=List.mem_map.1 this
    rw[<-h3];exact n2 e2 h2
end
section
variable{P:Program}{T:Tys}{B:Nat}{φ:Emb}{H:AHeap}{w:World}{nt:Nat}{t:PT AVal}{a:Act}
def q0i(P:Program)(T:Tys)(B:Nat)(φ:Emb)(H:AHeap)(w:World)(m:Sem Value)(v:AVal)(H':AHeap) :Prop :=
 ∃ u w' φ',m.run P w=.ok u w'/\VRel φ' v u/\Sim T B φ H w φ' H' w'
theorem j63{x:AVal}{u:Value}(hu:VRel φ x u){n:Nat}(h:lenA x=some n) :(Builtin.lenOf u).run P w=.ok n w:=by
 unfold lenA at h
 split at h
 .cases h;have e:u=.slice none 0 0:=hu;simp[e,Builtin.lenOf]
 .cases h;rw[(VRel.str_inv hu).1];simp[Builtin.lenOf,z4i]
 .cases h;obtain⟨y,a',c',_,e,_⟩:=hu;simp[e,Builtin.lenOf]
 .cases h
theorem j7n{l:List AVal}{o:Nat}{r:List AVal}(h:lsub l o 0=some r) :r=[]:=by
 rw[(z9d h).1];simp
theorem z8q(hH:HRel T B φ H w){x:AVal}{u:Value}(hu:VRel φ x u){sz n m:Nat}{l:List AVal}(hn:lenA x=some m)(hle:n<=m)(h:z31 H sz n x=some l) :
  ∃ us:Array Value,(Builtin.firstCells sz n u).run P w=.ok us w/\LRel φ l us.toList:=by
 unfold z31 at h
 split at h
 .cases h
  have e:u=.slice none 0 0:=hu
  exact⟨#[],by simp[e,Builtin.firstCells],rfl⟩
 .rename_i s
  cases h
  obtain⟨e,hlt⟩:=VRel.str_inv hu
  refine⟨((strV s).extract 0 n).data.map fun b=>.int .u8 b.toNat,by simp[e,Builtin.firstCells],?_⟩
  rw[z9x s 0 n (Nat.zero_le _)]
  have:=j8k (φ:=φ) (j3b s 0 n) (fun y hy=>hlt y (List.mem_of_mem_take (by simpa[j3b]using hy)))
  simpa[j3b]using this
 .rename_i b o len cap k
  simp[lenA]at hn
  subst hn
  obtain⟨y,a',c',hy,e,e1,e2,e3⟩:=hu
  by_cases h0:n=0
  .subst h0
   have hl:l=[]:=by
    unfold z0t at h
    split at h
    .exact j7n (o:=o) (by simpa using h)
    .cases h
   exact⟨#[],by simp[e,Builtin.firstCells,loadCells,loadCellsFrom],by rw[hl];rfl⟩
  .have ha:a'=⟨y.c,y.s+o,none⟩:=by
    rcases e3 with⟨_,_,h | h⟩ | ⟨_,h,_⟩ | ⟨_,h⟩
    .exact h
    .omega
    .exact h
    .omega
   obtain⟨us,g1,g2,g3,g4⟩:=z3z (P:=P) hH hy h
   exact⟨us.toArray,by rw[e,ha];simpa[Builtin.firstCells]using g4,by simpa using g2⟩
 .cases h
theorem j2c{x:AVal}{u:Value}(hu:VRel φ x u){n:Nat}(h:lenA x=some n){sz:Nat} :∃ cs:Array Value,(Builtin.firstCells sz 0 u).run P w=.ok cs w:=by
 unfold lenA at h
 split at h
 .have e:u=.slice none 0 0:=hu;exact⟨#[],by simp[e,Builtin.firstCells]⟩
 .rw[(VRel.str_inv hu).1];exact⟨_,by simp[Builtin.firstCells];rfl⟩
 .obtain⟨y,a',c',_,e,_⟩:=hu;exact⟨#[],by simp[e,Builtin.firstCells,loadCells,loadCellsFrom]⟩
 .cases h
theorem j9w{sz:Nat}{x:AVal}{l:List AVal}(h:z31 H sz 0 x=some l) :l=[]:=by
 unfold z31 at h
 split at h
 .cases h;rfl
 .cases h;simp[z0b]
 .unfold z0t at h
  split at h
  .exact j7n (by simpa using h)
  .cases h
 .cases h
theorem j80{sz n:Nat}{x:AVal}{l:List AVal}(h:z1e H sz x=some (n,l)) :lenA x=some n/\z31 H sz n x=some l:=by
 unfold z1e at h
 split at h
 .cases h;exact⟨rfl,rfl⟩
 .split at h
  .cases h;exact⟨rfl,by simp[z31]⟩
  .cases h
 .split at h
  .rename_i hl
   cases h
   exact⟨rfl,hl⟩
  .cases h
 .cases h
theorem j6x{sz n:Nat}{s:List Nat}{l:List AVal}(h:z1e H sz (.str s)=some (n,l)) :sz=1:=by
 simp only[z1e]at h
 split at h
 .exact Nat.eq_of_beq_eq_true ‹_›
 .cases h
theorem j1f{b:Pos}{o len cap k:Nat}{u:Value}(h:VRel φ (.sl b o len cap k) u) :
  ∃ y a' cap',φ b=some y/\u=.slice (some a') len cap'/\len<=cap/\cap<=cap'/\(a'=⟨y.c,y.s+o,none⟩\/cap=0)/\(k=0->cap'=cap) ∧
   (k≠0->0<cap'->a'=⟨y.c,y.s+o,none⟩/\y.s+o+cap'*k<=y.k/\cap'<=9223372036854775807):=by
 obtain⟨y,a',cap',h1,h2,h3,h4,h5⟩:=h
 refine⟨y,a',cap',h1,h2,h3,h4,?_,?_,?_⟩
 .rcases h5 with⟨_,_,h⟩ | ⟨_,h,_⟩ | ⟨_,h⟩
  .exact h
  .exact .inl h
  .exact .inr (by omega)
 .intro hk
  rcases h5 with⟨_,h,_⟩ | ⟨h,_⟩ | ⟨h,_⟩
  .exact h
  .exact absurd hk h
  .exact absurd hk h
 .intro hk hc
  rcases h5 with⟨h,_⟩ | ⟨_,h,h'⟩ | ⟨_,h⟩
  .exact absurd h hk
  .exact⟨h,h'⟩
  .omega
def q74(H:AHeap)(sz nn:Nat)(d s:AVal) :ARes :=
 match d with
 | .snil=>some (.int .i64 (.ofNat 0),H)
 | .sl b o len _ _ =>
  match z31 H sz (Nat.min nn len) s with
  | some l=>match z05 H b o l with
   | some h'=>some (.int .i64 (.ofNat (Nat.min nn len)),h')
   | none=>none
  | none=>none
 | _=>none
theorem y9p(hT:TOk T P)(hH:HRel T B φ H w){ats:Array TypeId}{ty ty2 e:TypeId}{xs:Array Value}{d s:AVal}{ud us:Value}(h0:ats[0]? = some ty)(hx0:xs[0]? = some ud)(hx1:xs[1]? = some us)
  (hd:VRel φ d ud) (hs:VRel φ s us) (hty:T.und ty=some (.slice e)) {sz:Nat} (hsz:T.size e=some sz) {v:AVal} {H':AHeap} {nn:Nat} (hn:lenA s=some nn)
  (h:q74 H sz nn d s=some (v,H')) :q0i P T B φ H w (Builtin.copy_ ats ty2 xs) v H':=by
 have hl:=j63 (P:=P) (w:=w) hs hn
 unfold q74 at h
 cases d with
 | snil =>
  cases h
  have e1:ud=.slice none 0 0:=hd
  obtain⟨cs,g1⟩:=j2c (P:=P) (w:=w) hs hn (sz:=sz)
  exact⟨goInt 0,w,φ,by simp[Builtin.copy_,h0,hx0,hx1,hT.run_und hty,e1,hl,hT.run_size hsz,g1],rfl,Sim.refl hH⟩
 | sl b o len cap k =>
  simp only at h
  split at h
  .rename_i l hf
   split at h
   .rename_i h' hst
    cases h
    obtain⟨y,a',cap',e1,e2,e3,e4,e5,e6,e7⟩:=j1f hd
    obtain⟨cs,g1,g2⟩:=z8q (P:=P) hH hs hn (Nat.min_le_left _ _) hf
    obtain⟨w',g3,g4⟩:=z7e (P:=P) hH e1 hst g2
    have g5:(storeCells a' cs.toList).run P w=.ok () w':=by
     rcases e5 with e5 | e5
     .rw[e5];exact g3
     .have hl0:len=0:=by omega
      have hc:cs.toList=[]:=by
       subst hl0
       have:l=[]:=j9w (by simpa using hf)
       rw[this]at g2
       exact g2
      rw[hc]at g3 ⊢
      exact g3
    exact⟨goInt (Nat.min nn len),w',φ,by simp[Builtin.copy_,h0,hx0,hx1,hT.run_und hty,e2,hl,hT.run_size hsz,g1,g5],rfl,g4⟩
   .cases h
  .cases h
 | _=>simp at h
theorem j96(hT:TOk T P)(hH:HRel T B φ H w){ats:Array TypeId}{xs:Array Value}{ty kt e ty2:TypeId}{um uk:Value}(h0:ats[0]? = some ty)(hx0:xs[0]? = some um)(hx1:xs[1]? = some uk){b:Pos}{kv:AVal}(hmv:VRel φ (.map b) um)(hkv:VRel φ kv uk)
  (hs:T.und ty=some (.map kt e)) {q:EqK} (hk:z18 T kt=some q) {es es':List (AVal×AVal)} (hb:PT.get b H.t=some (.map es)) (hfit:z3o q kv=true) (h:z54 H q kv es=some es') :
  q0i P T B φ H w (Builtin.delete_ ats ty2 xs) .undef (H.upd b (.map es')):=by
 obtain⟨p,hp,em⟩:=hmv
 obtain⟨arr,clock,g1,g2,g3⟩:=hH.obj b _ p hb hp
 have hg:=z2s (P:=P) g1 (by simp)
 have fin:∀ ob,ORel T φ B { w with heap:=w.heap.setIfInBounds p.c ob } (.map es') p->Sim T B φ H w φ (H.upd b (.map es')) { w with heap:=w.heap.setIfInBounds p.c ob }:=by
  intro ob ho
  have hother:∀ c,c≠p.c->({ w with heap:=w.heap.setIfInBounds p.c ob } :World).heap[c]? = w.heap[c]?:=fun c hc=>by
   show(w.heap.setIfInBounds p.c ob)[c]? = _
   rw[Array.getElem?_setIfInBounds_ne (fun e=>hc e.symm)]
  exact Sim.turn hH hp (by rw[hb];simp) (Below.of_one g3 rfl rfl rfl (by simp) hother) (by simp) hother ho
 have hin:p.c<w.heap.size:=(hH.low b p hp).2
 rcases j35 h with⟨hf,rfl⟩ | ⟨v',hf⟩
 .obtain⟨i1,i2⟩:=z2f hT hH g2 hk hkv hf
  refine⟨_,_,φ,?_,VRel.undef,fin (.map arr clock) ⟨arr,clock,by show(w.heap.setIfInBounds p.c _)[p.c]? = _;simp[hin],g2,g3⟩⟩
  simp[Builtin.delete_,h0,hx0,hx1,hT.run_und hs,em,hg,z07 hT hk hkv hfit,i1,z26 _ g1]
  rfl
 .obtain⟨E1,e0,E2,fs1,kk,fs2,l1,l2,i1,i2,i3,i4,i5,i6,i7,i8,i9,i10,i11,i12⟩:=z2f hT hH g2 hk hkv hf
  rw[i5,j36 i6 (i5▸hf)]at h
  have h:=Option.some.inj h
  rw[<-h]at fin ⊢
  have herase:arr.eraseIdxIfInBounds E1.length=(E1++E2).toArray:=by
   have hlt:E1.length<arr.size:=by
    have:=congrArg List.length i1
    simp at this;omega
   apply Array.ext'
   rw[Array.eraseIdxIfInBounds,dif_pos hlt,Array.toList_eraseIdx,i1]
   simp[List.eraseIdx_append_of_length_le]
  have hsub:(E1++E2).Sublist arr.toList:=by
   rw[i1];exact List.Sublist.append (List.Sublist.refl _) (List.sublist_cons_self _ _)
  refine⟨_,_,φ,?_,VRel.undef,fin (.map (E1++E2).toArray clock) ?_⟩
  .simp[Builtin.delete_,h0,hx0,hx1,hT.run_und hs,em,hg,z07 hT hk hkv hfit,i2,herase,z26 _ g1]
   rfl
  .obtain⟨_,n1,n2,n3⟩:=g2
   have hperm:(l1++l2).Perm (E1++E2):=by
    rw[i1]at i7
    exact(List.perm_cons e0).1 ((List.perm_middle.symm.trans i7).trans List.perm_middle)
   refine⟨(E1++E2).toArray,clock,by show(w.heap.setIfInBounds p.c _)[p.c]? = _;simp[hin],⟨⟨l1++l2,by simpa using hperm,?_,?_⟩,(hsub.map _).nodup n1,fun e he=>n2 e (hsub.subset (by simpa using he)),(hsub.map _).nodup n3⟩,g3⟩
   .simp only[List.map_append];exact i8.append i9
   .simp only[List.map_append];exact i10.append i11
end
section
variable{P:Program}{T:Tys}{B:Nat}{φ:Emb}{H:AHeap}{w:World}{nt:Nat}{t:PT AVal}{a:Act}
def y93(H:AHeap)(z d:AVal) :ARes :=
 match d with
 | .snil=>some (.undef,H)
 | .sl b o len _ _=>match z05 H b o (repl (z3e z) len)with
  | some h'=>some (.undef,h')
  | none=>none
 | _=>none
theorem y4u(hT:TOk T P)(hH:HRel T B φ H w){ats:Array TypeId}{ty ty2 e:TypeId}{xs:Array Value}{d:AVal}{ud:Value}(h0:ats[0]? = some ty)(hx0:xs[0]? = some ud)
  (hd:VRel φ d ud) (hty:T.und ty=some (.slice e)) {z:AVal} (hz:z3c T e=some z) {v:AVal} {H':AHeap}
  (h:y93 H z d=some (v,H')) :q0i P T B φ H w (Builtin.clear_ ats ty2 xs) v H':=by
 obtain⟨zv,z1,z2⟩:=hT.run_zero hz w
 unfold y93 at h
 cases d with
 | snil =>
  cases h
  have e1:ud=.slice none 0 0:=hd
  exact⟨undef,w,φ,by simp[Builtin.clear_,h0,hx0,hT.run_und hty,e1,undef],VRel.undef,Sim.refl hH⟩
 | sl b o len cap k =>
  simp only at h
  split at h
  .rename_i h' hst
   cases h
   obtain⟨y,a',cap',e1,e2,e3,e4,e5,e6,e7⟩:=j1f hd
   have hzc:=j85 (z28 (φ:=φ) z2) (n:=len) rfl
   obtain⟨w',g3,g4⟩:=z7e (P:=P) hH e1 hst hzc
   cases len with
   | zero =>
    have hw:w'=w:=by
     have:((Array.range (0*zv.cells.size)).map (zv.cells[· % zv.cells.size]!)).toList=[]:=by simp
     rw[this]at g3
     simp[storeCells]at g3
     exact g3.symm
    rw[hw]at g4
    exact⟨undef,w,φ,by simp[Builtin.clear_,h0,hx0,hT.run_und hty,e2,undef],VRel.undef,g4⟩
   | succ n =>
    have ha:a'=⟨y.c,y.s+o,none⟩:=by
     rcases e5 with h | h
     .exact h
     .omega
    refine⟨undef,w',φ,?_,VRel.undef,g4⟩
    simp[Builtin.clear_,h0,hx0,hT.run_und hty,e2,z1,ha,Builtin.zeroCells,undef]at g3 ⊢
    rw[g3]
    simp
  .cases h
 | _=>simp at h
theorem z75(hT:TOk T P){ats:Array TypeId}{ty ty2 e:TypeId}{xs:Array Value}{base:Option Addr}{sLen sCap:Nat}{ux:Value}(h0:ats[0]? = some ty)(hx0:xs[0]? = some (.slice base sLen sCap))(hx1:xs[1]? = some ux)
  (h1:ats[1]? = none\/∃ tx d,ats[1]? = some tx/\T.und tx=some d/\∀ k,d≠.int k) (hty:T.und ty=some (.slice e)) {sz:Nat} (hsz:T.size e=some sz) {n:Nat} (hn:(Builtin.lenOf ux).run P w=.ok n w) (hle:sLen+n<=sCap)
  {new:Array Value} (hnew:(Builtin.firstCells sz n ux).run P w=.ok new w) {w':World} (hst:(match base with | some a=>storeCells (a.add (sLen*sz)) new.toList | none=>pure ()).run P w=.ok () w') :
  (Builtin.append_ ats ty2 xs).run P w=.ok (.slice base (sLen+n) sCap) w':=by
 rcases h1 with h1 | ⟨tx,d,h1,hd,hne⟩
 .cases base with
  | none =>
   have e:w=w':=by simpa using hst
   subst e
   simp only[Builtin.append_,h0,hx0,hx1,h1,Sem.run_bind,hT.run_und hty,hT.run_size hsz,hn,hle,hnew,Result.andThen_ok,Sem.run_pure,Bool.false_eq_true,if_false,if_true,Bool.not_false]
  | some a =>
   simp only at hst
   simp only[Builtin.append_,h0,hx0,hx1,h1,Sem.run_bind,hT.run_und hty,hT.run_size hsz,hn,hle,hnew,hst,Result.andThen_ok,Sem.run_pure,Bool.false_eq_true,if_false,if_true,Bool.not_false]
 .have hb:(match d with | .int _=>true | _=>false)=false:=by
   cases d<;>first | rfl | exact absurd rfl (hne _)
  cases base with
  | none =>
   have e:w=w':=by simpa using hst
   subst e
   simp only[Builtin.append_,h0,hx0,hx1,h1,Sem.run_bind,hT.run_und hty,hT.run_und hd,hT.run_size hsz,hn,hle,hnew,Result.andThen_ok,Sem.run_pure,Bool.false_eq_true,if_false,if_true,Bool.not_false]
  | some a =>
   simp only at hst
   simp only[Builtin.append_,h0,hx0,hx1,h1,Sem.run_bind,hT.run_und hty,hT.run_und hd,hT.run_size hsz,hn,hle,hnew,hst,Result.andThen_ok,Sem.run_pure,Bool.false_eq_true,if_false,if_true,Bool.not_false]
theorem j4e(hT:TOk T P){ats:Array TypeId}{ty ty2 e:TypeId}{i:TypeInfo}{xs:Array Value}{base:Option Addr}{sLen sCap:Nat}{ux:Value}(h0:ats[0]? = some ty)(hx0:xs[0]? = some (.slice base sLen sCap))(hx1:xs[1]? = some ux)
  (h1:ats[1]? = none\/∃ tx d,ats[1]? = some tx/\T.und tx=some d/\∀ k,d≠.int k) (hty:T.und ty=some (.slice e)) (hi:T.get e=some i) (hb0:i.bytes≠0) {n:Nat} (hn:(Builtin.lenOf ux).run P w=.ok n w) (hgt:¬ (sLen+n<=sCap))
  (hfit:Builtin.nextslicecap (sLen+n) sCap*i.bytes<=2^48) {old new:Array Value} (hold:(Builtin.firstCells i.size sLen (.slice base sLen sCap)).run P w.drew=.ok old w.drew) (hnew:(Builtin.firstCells i.size n ux).run P w.drew=.ok new w.drew)
  {z:Value} (hz:(zeroValue e).run P w.drew=.ok z w.drew) :
  (Builtin.append_ ats ty2 xs).run P w=.ok (.slice (some ⟨w.heap.size,0,none⟩) (sLen+n) (grownCap w (sLen+n) sCap e))
   (w.drew.alloc (.cells (old++new++Builtin.zeroCells z.cells (grownCap w (sLen+n) sCap e-(sLen+n))) e)):=by
 have hsz:T.size e=some i.size:=by simp[Tys.size,hi]
 have hfit':¬ (Builtin.nextslicecap (sLen+n) sCap*i.bytes>2^48):=by omega
 have hroom:∀ w:World,(askRoom (grownCap w (sLen+n) sCap e*i.bytes)).run P w.drew=.ok () w.drew:=by
  intro w
  unfold askRoom
  split<;>rfl
 rcases h1 with h1 | ⟨tx,d,h1,hd,hne⟩
 .simp only[Builtin.append_,h0,hx0,hx1,h1,Sem.run_bind,hT.run_und hty,hT.run_size hsz,hn,hgt,Result.andThen_ok,Sem.run_pure,Bool.false_eq_true,if_false,false_or,and_false,hT.run_info hi,hb0,hfit',z5q,hroom,hold,hnew,hz,newRow,run_newObj_alloc,Bool.not_false,if_true]
  rfl
 .have hb:(match d with | .int _=>true | _=>false)=false:=by
   cases d<;>first | rfl | exact absurd rfl (hne _)
  simp only[Builtin.append_,h0,hx0,hx1,h1,Sem.run_bind,hT.run_und hty,hT.run_und hd,hT.run_size hsz,hn,hgt,Result.andThen_ok,Sem.run_pure,Bool.false_eq_true,if_false,false_or,and_false,hT.run_info hi,hb0,hfit',z5q,hroom,hold,hnew,hz,newRow,run_newObj_alloc,Bool.not_false,if_true]
  rfl
end
end Go.Am
