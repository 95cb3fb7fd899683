import Derived.Test.YtepncpggenncoaaGreatDoorAm4
set_option linter.unusedSimpArgs false
set_option linter.unusedVariables false
set_option maxHeartbeats 8000000
namespace Go.Am
open Go Go.RowKit
section
variable{P:Program}{T:Tys}{B:Nat}{φ:Emb}{H:AHeap}{w:World}{nt:Nat}{t:PT AVal}{a:Act}
def y8g(T:Tys)(ty:TypeId) :EqK->Prop
 | .bool=>T.und ty=some .bool
 | .int=>∃ k,T.und ty=some (.int k)
 | .str=>T.und ty=some .string
 | .ptr=>∃ e n,T.und ty=some (.pointer e)/\T.size e=some (n+1)
 | .sl=>∃ e,T.und ty=some (.slice e)
 | .map=>∃ k e,T.und ty=some (.map k e)
 | .func=>∃ p r v,T.und ty=some (.func p r v)
 | .iface=>∃ m,T.und ty=some (.interface m)
 | .pair=>False
theorem j5b(hH:HRel T B φ H w){b:Pos}{x:Place}(hx:φ b=some x)(h:live H b=true) :
  PT.get b H.t≠none/\(∃ arr e lo hi,w.heap[x.c]? = some (.cells arr e (lo,hi))/\hi<=lo):=by
 unfold live at h
 split at h
 .rename_i l hb
  obtain⟨arr,e,lo,hi,h1,h2,h3,h4,h5,h6,h7⟩:=hH.obj b _ x hb hx
  exact⟨by rw[hb];simp,arr,e,lo,hi,h1,(h6 rfl rfl).1⟩
 .cases h
theorem j62{x y:Addr}(hne:x.block≠y.block)(h1:∃ arr e lo hi,w.heap[x.block]? = some (.cells arr e (lo,hi))/\hi<=lo)(h2:∃ arr e lo hi,w.heap[y.block]? = some (.cells arr e (lo,hi))/\hi<=lo) :
  (sameAddr x y).run P w=.ok false w:=by
 obtain⟨arr,e,lo,hi,g1,g2⟩:=h1
 obtain⟨arr',e',lo',hi',g3,g4⟩:=h2
 have f1:∀ o s,w.frozen? ⟨x.block,o,s⟩=false:=by
  intro o s;simp only[World.frozen?,g1];simp;omega
 have f2:∀ o s,w.frozen? ⟨y.block,o,s⟩=false:=by
  intro o s;simp only[World.frozen?,g3];simp;omega
 have f1':w.frozen? x=false:=f1 x.off x.spot
 have f2':w.frozen? y=false:=f2 y.off y.spot
 have s1:w.shape? x.block=some (e,arr.size):=by simp[World.shape?,g1]
 have s2:w.shape? y.block=some (e',arr'.size):=by simp[World.shape?,g3]
 have hb:(x.block==y.block)=false:=by simpa using hne
 simp[sameAddr,hb,f1',noView,viewAt,s1,s2,mayBeOne,stringish,f2',f1,f2]
theorem j31(hT:TOk T P)(hH:HRel T B φ H w){q:EqK}{x y:AVal}{u v:Value}(hx:VRel φ x u)(hy:VRel φ y v){ty:TypeId}(hk:y8g T ty q){r:Bool}(h:eqS H q x y=some r)(d:Nat) :
  (Op.equalIn (d+1) ty u v).run P w=.ok r w:=by
 cases q with
 | pair=>cases hk
 | bool =>
  simp only[eqS]at h
  split at h
  .cases h
   rw[VRel.bool_inv hx,VRel.bool_inv hy]
   exact run_equalIn_bool w d ty _ _ (hT.und hk)
  .cases h
 | int =>
  simp only[eqS]at h
  split at h
  .split at h
   .rename_i e
    cases h
    obtain⟨k,hk⟩:=hk
    rw[VRel.int_inv hx,VRel.int_inv hy,<-z6r.1 e,j32]
    exact run_equalIn_int w d ty _ _ _ _ (hT.und hk)
   .cases h
  .cases h
 | str =>
  simp only[eqS]at h
  split at h
  .cases h
   obtain⟨e1,h1⟩:=VRel.str_inv hx
   obtain⟨e2,h2⟩:=VRel.str_inv hy
   rw[e1,e2,run_equalIn_string w d ty _ _ (hT.und hk),z6i h1 h2,z1u,z1u]
  .cases h
 | ptr =>
  obtain⟨e,n,h1,h2⟩:=hk
  have hu:=hT.run_und h1 w
  simp only[eqS]at h
  split at h
  .cases h
   have e1:u=.pointer none:=hx
   have e2:v=.pointer none:=hy
   subst e1;subst e2
   simp[Op.equalIn,hu]
  .cases h
   have e1:u=.pointer none:=hx
   obtain⟨z,hz,e2⟩:=hy
   subst e1;subst e2
   simp[Op.equalIn,hu]
  .cases h
   have e2:v=.pointer none:=hy
   obtain⟨z,hz,e1⟩:=hx
   subst e1;subst e2
   simp[Op.equalIn,hu]
  .rename_i b o b' o'
   obtain⟨z,hz,e1⟩:=hx
   obtain⟨z',hz',e2⟩:=hy
   subst e1;subst e2
   have hsz:=hT.run_size h2 w
   split at h
   .rename_i hb
    have:=Pos.beq_eq.1 hb
    subst this
    rw[hz]at hz'
    cases hz'
    cases h
    have:(sameAddr ⟨z.c,z.s+o,none⟩ ⟨z.c,z.s+o',none⟩).run P w=.ok (Nat.beq o o') w:=by
     have e3:((⟨z.c,z.s+o,none⟩ :Addr)==⟨z.c,z.s+o',none⟩)=Nat.beq o o':=by
      rw[Bool.eq_iff_iff]
      simp
     simp[sameAddr,e3]
    simp[Op.equalIn,hu,hsz,this]
   .rename_i hb
    have hne:=Pos.beq_ne hb
    split at h
    .rename_i l1 l2
     cases h
     obtain⟨g1,g2⟩:=j5b hH hz l1
     obtain⟨g3,g4⟩:=j5b hH hz' l2
     have hc:=hH.inj b b' z z' hne g1 g3 hz hz'
     have:=j62 (P:=P) (x:=⟨z.c,z.s+o,none⟩) (y:=⟨z'.c,z'.s+o',none⟩) hc g2 g4
     simp[Op.equalIn,hu,hsz,this]
    .cases h
  .cases h
 | sl =>
  obtain⟨e,h1⟩:=hk
  have hu:=hT.run_und h1 w
  simp only[eqS]at h
  split at h
  .cases h
   have e1:u=.slice none 0 0:=hx
   have e2:v=.slice none 0 0:=hy
   subst e1;subst e2
   simp[Op.equalIn,hu]
  .cases h
   have e1:u=.slice none 0 0:=hx
   obtain⟨z,ad,c,hz,e2,_⟩:=hy
   subst e1;subst e2
   simp[Op.equalIn,hu]
  .cases h
   have e2:v=.slice none 0 0:=hy
   obtain⟨z,ad,c,hz,e1,_⟩:=hx
   subst e1;subst e2
   simp[Op.equalIn,hu]
  .cases h
 | map =>
  obtain⟨k,e,h1⟩:=hk
  have hu:=hT.run_und h1 w
  simp only[eqS]at h
  split at h
  .cases h
   have e1:u=.map none:=hx
   have e2:v=.map none:=hy
   subst e1;subst e2
   simp[Op.equalIn,hu]
  .cases h
   have e1:u=.map none:=hx
   obtain⟨z,hz,e2⟩:=hy
   subst e1;subst e2
   simp[Op.equalIn,hu]
  .cases h
   have e2:v=.map none:=hy
   obtain⟨z,hz,e1⟩:=hx
   subst e1;subst e2
   simp[Op.equalIn,hu]
  .cases h
 | func =>
  obtain⟨p,r',vv,h1⟩:=hk
  have hu:=hT.run_und h1 w
  simp only[eqS]at h
  split at h
  .cases h
   have e1:u=.nilFunc:=hx
   have e2:v=.nilFunc:=hy
   subst e1;subst e2
   simp[Op.equalIn,hu]
  .cases h
   have e1:u=.nilFunc:=hx
   obtain⟨z,z',e2,_⟩:=hy
   subst e1;subst e2
   simp[Op.equalIn,hu]
  .cases h
   have e2:v=.nilFunc:=hy
   obtain⟨z,z',e1,_⟩:=hx
   subst e1;subst e2
   simp[Op.equalIn,hu]
  .cases h
 | iface =>
  obtain⟨m,h1⟩:=hk
  have hu:=hT.run_und h1 w
  simp only[eqS]at h
  split at h
  .cases h
   have e1:u=.nilIface:=hx
   have e2:v=.nilIface:=hy
   subst e1;subst e2
   simp[Op.equalIn,hu]
  .cases h
   have e1:u=.nilIface:=hx
   obtain⟨z,e2,_⟩:=hy
   subst e1;subst e2
   simp[Op.equalIn,hu]
  .cases h
   have e2:v=.nilIface:=hy
   obtain⟨z,e1,_⟩:=hx
   subst e1;subst e2
   simp[Op.equalIn,hu]
  .cases h
end
section
variable{P:Program}{T:Tys}{B:Nat}{φ:Emb}{H:AHeap}{w:World}{nt:Nat}{t:PT AVal}{a:Act}
theorem j93{op:BinOp}{ty:TypeId}{x y:Operand}(h:(z5z x || z5z y)=true) :(eqGuard op ty x y .nilIface .nilIface).run P w=.ok () w:=by
 cases op<;>first
  | rfl
  | (cases x<;>first
    | rfl
    | (cases y<;>first
      | rfl
      | (simp[z5z]at h)))
theorem j5v{op:BinOp}{ty:TypeId}{x y:Operand}{u v:Value}(h1:v≠.nilIface)(h2:∀ l,u≠.agg l) :(eqGuard op ty x y u v).run P w=.ok () w:=by
 cases op<;>first
  | rfl
  | (cases u<;>first
    | (exact absurd rfl (h2 _))
    | (cases v<;>first | (exact absurd rfl h1) | rfl))
theorem j2i{op:BinOp}{ty:TypeId}{x y:Operand}{l m:Array Value}(h:P.eqGuardType P.depth ty=false) :(eqGuard op ty x y (.agg l) (.agg m)).run P w=.ok () w:=by
 cases op<;>first
  | rfl
  | (show Sem.run P (do
     if !(<-program).eqGuardType (<-program).depth ty then return
     if <-Op.eqGuardIn Op.maxDepth ty (.agg l) (.agg m)then unsupported (.noEntry "binop/eql: two nil values of an interface type with methods, in a part of a struct or an array") :Sem Unit) w=_
     simp[h])
theorem q6f{ty:TypeId}{u v:Value}{r:Bool}(h:(Op.equal ty u v).run P w=.ok r w)(hi:∀ k n,u≠.int k n)(hs:∀ s,u≠.string s)(hf:∀ k n,u≠.float k n)(hc:∀ k n m,u≠.complex k n m) :
  (binOp .eql ty u v).run P w=.ok (.bool r) w/\(binOp .neq ty u v).run P w=.ok (.bool (!r)) w:=by
 have h1:binOp .eql ty u v=(do pure (.bool (<-Op.equal ty u v)) :Sem Value):=by
  cases u<;>first
   | (exact absurd rfl (hi _ _))
   | (exact absurd rfl (hs _))
   | (exact absurd rfl (hf _ _))
   | (exact absurd rfl (hc _ _ _))
   | rfl
 have h2:binOp .neq ty u v=(do pure (.bool (!(<-Op.equal ty u v))) :Sem Value):=by
  cases u<;>first
   | (exact absurd rfl (hi _ _))
   | (exact absurd rfl (hs _))
   | (exact absurd rfl (hf _ _))
   | (exact absurd rfl (hc _ _ _))
   | rfl
 rw[h1,h2]
 simp[h]
def eqOk(T:Tys)(ty:TypeId)(x y:Operand) :EqKs->Prop
 | .one q=>y8g T ty q/\(q≠.int/\q≠.str)/\(q=.iface->(z5z x || z5z y)=true)
 | .cells qs=>(∃ fs,T.und ty=some (.struct fs)/\T.cmps.contains ty=true/\eqFields T fs.toList 0=some qs) ∨
   (∃ n e q,T.und ty=some (.array n e)/\z8u T e=some q/\T.isAgg e=some false/\T.size e=some 1/\qs=List.replicate n q)
theorem j76{ty:TypeId}{x y:Operand}{k:EqKs}(h:y9l T ty x y=some k) :eqOk T ty x y k:=by
 unfold y9l at h
 split at h
 .cases h;exact⟨‹_›,by simp,by simp⟩
 .split at h
  .cases h;exact⟨⟨_,_,‹_›,‹_›⟩,by simp,by simp⟩
  .cases h
 .cases h;exact⟨⟨_,‹_›⟩,by simp,by simp⟩
 .cases h;exact⟨⟨_,_,‹_›⟩,by simp,by simp⟩
 .cases h;exact⟨⟨_,_,_,‹_›⟩,by simp,by simp⟩
 .split at h
  .cases h;exact⟨⟨_,‹_›⟩,by simp,fun _=>‹_›⟩
  .cases h
 .split at h
  .cases h;exact .inl ⟨_,‹_›,‹_›,‹_›⟩
  .cases h
 .split at h
  .cases h;exact .inr ⟨_,_,_,‹_›,‹_›,‹_›,‹_›,rfl⟩
  .cases h
 .cases h
theorem z8t{ty:TypeId}{q:EqK}(h:z8u T ty=some q) :y8g T ty q:=by
 unfold z8u at h
 split at h
 .cases h;assumption
 .cases h;exact⟨_,‹_›⟩
 .cases h;assumption
 .cases h
theorem z9b(hT:TOk T P){ty:TypeId}(hg:T.isAgg ty=some false){l:List AVal}{vs:Array Value}(hl:LRel φ l vs.toList){i:Nat}{x:AVal}(hx:l[i]? = some x) :
  ∃ u,(part ty vs i).run P w=.ok u w/\VRel φ x u:=by
 obtain⟨u,hu,hv⟩:=hl.get hx
 have:vs[i]? = some u:=by simpa using hu
 exact⟨u,by simp[part,hT.run_isAgg hg,this],hv⟩
theorem j0a(hT:TOk T P)(hH:HRel T B φ H w){l m:List AVal}{us vs:Array Value}(hl:LRel φ l us.toList)(hm:LRel φ m vs.toList)(d:Nat) :∀ {fs:List Field} {i:Nat} {qs:List EqK} {r:Bool},
  eqFields T fs i=some qs->eqL H qs (l.drop i) (m.drop i)=some r->(Op.eqFields (d+1) us vs fs).run P w=.ok r w
 | [],i,qs,r,h,e=>by
  simp[eqFields]at h
  subst h
  have:r=true:=by
   generalize l.drop i=l' at e
   generalize m.drop i=m' at e
   cases l'<;>cases m'<;>simp[eqL]at e<;>exact e
  subst this
  rfl
 | f::fs,i,qs,r,h,e=>by
  simp only[eqFields]at h
  split at h
  .rename_i q m' hn ho hg hq hr
   cases h
   cases hl':l.drop i with
   | nil=>simp[hl',eqL]at e
   | cons x l' =>
    cases hm':m.drop i with
    | nil=>simp[hl',hm',eqL]at e
    | cons y m'' =>
     rw[hl',hm']at e
     simp only[eqL]at e
     have hx:l[i]? = some x:=by
      have:=congrArg List.head? hl'
      simpa using this
     have hy:m[i]? = some y:=by
      have:=congrArg List.head? hm'
      simpa using this
     have hof:f.offset=i:=Nat.eq_of_beq_eq_true ho
     obtain⟨u,g1,g2⟩:=z9b (P:=P) (w:=w) hT hg hl hx
     obtain⟨v,g3,g4⟩:=z9b (P:=P) (w:=w) hT hg hm hy
     have dl:l.drop (i+1)=l':=by
      have:=congrArg List.tail hl'
      simpa[List.tail_drop]using this
     have dm:m.drop (i+1)=m'':=by
      have:=congrArg List.tail hm'
      simpa[List.tail_drop]using this
     have hname:f.name ≠ "_":=by simpa using hn
     simp only[Op.eqFields,if_pos hname,Sem.run_bind,hof,g1,g3,Result.andThen_ok]
     split at e
     .rename_i he
      have hrec:=j0a hT hH hl hm d (fs:=fs) (i:=i+1) hr (by rw[dl,dm];exact e)
      simp[j31 hT hH g2 g4 (z8t hq) he d,hrec]
     .rename_i he
      cases e
      simp[j31 hT hH g2 g4 (z8t hq) he d]
     .cases e
  .cases h
theorem z7z(hT:TOk T P)(hH:HRel T B φ H w){l m:List AVal}{us vs:Array Value}(hl:LRel φ l us.toList)(hm:LRel φ m vs.toList){ety:TypeId}{q:EqK}(hq:z8u T ety=some q)(hg:T.isAgg ety=some false)(d:Nat) :∀ {n i:Nat} {r:Bool},
  eqL H (List.replicate n q) (l.drop i) (m.drop i)=some r->(Op.eqItems (d+1) ety 1 us vs (List.range' i n)).run P w=.ok r w
 | 0,i,r,e=>by
  have:r=true:=by
   simp only[List.replicate_zero]at e
   generalize l.drop i=l' at e
   generalize m.drop i=m' at e
   cases l'<;>cases m'<;>simp[eqL]at e<;>exact e
  subst this
  rfl
 | n+1,i,r,e=>by
  simp only[List.replicate_succ]at e
  cases hl':l.drop i with
  | nil=>simp[hl',eqL]at e
  | cons x l' =>
   cases hm':m.drop i with
   | nil=>simp[hl',hm',eqL]at e
   | cons y m'' =>
    rw[hl',hm']at e
    simp only[eqL]at e
    have hx:l[i]? = some x:=by
     have:=congrArg List.head? hl'
     simpa using this
    have hy:m[i]? = some y:=by
     have:=congrArg List.head? hm'
     simpa using this
    obtain⟨u,g1,g2⟩:=z9b (P:=P) (w:=w) hT hg hl hx
    obtain⟨v,g3,g4⟩:=z9b (P:=P) (w:=w) hT hg hm hy
    have dl:l.drop (i+1)=l':=by
     have:=congrArg List.tail hl'
     simpa[List.tail_drop]using this
    have dm:m.drop (i+1)=m'':=by
     have:=congrArg List.tail hm'
     simpa[List.tail_drop]using this
    simp only[List.range'_succ,Op.eqItems,Sem.run_bind,Nat.mul_one,g1,g3,Result.andThen_ok]
    split at e
    .rename_i he
     have hrec:=z7z hT hH hl hm hq hg d (n:=n) (i:=i+1) (by rw[dl,dm];exact e)
     simp[j31 hT hH g2 g4 (z8t hq) he d,hrec]
    .rename_i he
     cases e
     simp[j31 hT hH g2 g4 (z8t hq) he d]
    .cases e
theorem z58{ty:TypeId}{q:EqK}(hT:TOk T P)(h:z8u T ty=some q)(d:Nat) :P.eqGuardType (d+1) ty=false:=by
 unfold z8u at h
 split at h<;>first | (cases h;done) | (rename_i hu;simp[Program.eqGuardType,hT.und hu])
theorem z7n(hT:TOk T P)(d:Nat) :∀ {fs:List Field} {i:Nat} {qs:List EqK},eqFields T fs i=some qs->(fs.any fun(f:Field)=>f.name != "_" && P.eqGuardType (d+1) f.type)=false
 | [],_,_,_=>rfl
 | f::fs,i,qs,h=>by
  simp only[eqFields]at h
  split at h
  .rename_i q m' hn ho hg hq hr
   simp[z58 hT hq d]
   have:=z7n hT d hr
   simpa using this
  .cases h
theorem y1n(hT:TOk2 T P)(hH:HRel T B φ H w)(ht:TRel φ nt t a.tmps){o:Oper}{neg:Bool}{ty ty2:TypeId}{x y:Operand}(ho:o.op=.binOp (match neg with | true=>.neq | false=>.eql) ty x y ty2){ax ay:AOpnd}(hx:opnd T x=some ax)(hy:opnd T y=some ay)
  {k:EqKs} (hk:eqOk T ty x y k) {v:AVal} (h:quiet t H (.eq neg k ax ay)=some v) :∃ u,(execOp a.eval o).run P w=.ok (.value u) w/\VRel φ v u:=by
 simp only[quiet]at h
 split at h
 .rename_i b hb
  cases h
  have hxv:=z0m hH ht hx
  have hyv:=z0m hH ht hy
  refine⟨.bool (match neg with | true=>!b | false=>b),?_,by cases neg<;>rfl⟩
  have hdep:P.depth=(P.depth-2)+1+1:=by unfold Program.depth;omega
  have main:(Op.equal ty (a.eval x) (a.eval y)).run P w=.ok b w/\(∀ op,(eqGuard op ty x y (a.eval x) (a.eval y)).run P w=.ok () w) ∧
    (∀ k n,a.eval x≠.int k n)/\(∀ s,a.eval x≠.string s)/\(∀ k n,a.eval x≠.float k n)/\(∀ k n m,a.eval x≠.complex k n m):=by
   cases k with
   | one q =>
    obtain⟨hk1,⟨hk2,hk3⟩,hk4⟩:=hk
    simp only[eqV]at hb
    have he:(Op.equal ty (a.eval x) (a.eval y)).run P w=.ok b w:=j31 hT.toTOk hH hxv hyv hk1 hb 9999
    refine⟨he,?_⟩
    generalize ax.ev t=X at hb hxv
    generalize ay.ev t=Y at hb hyv
    cases q with
    | pair=>exact hk1.elim
    | int=>exact absurd rfl hk2
    | str=>exact absurd rfl hk3
    | iface =>
     have hc:=hk4 rfl
     simp only[eqS]at hb
     split at hb
     .have e1:a.eval x=.nilIface:=hxv
      have e2:a.eval y=.nilIface:=hyv
      rw[e1,e2]
      exact⟨fun op=>j93 hc,by simp,by simp,by simp,by simp⟩
     .obtain⟨z,e2,_⟩:=hyv
      have e1:a.eval x=.nilIface:=hxv
      rw[e1,e2]
      exact⟨fun op=>j5v (by simp) (by simp),by simp,by simp,by simp,by simp⟩
     .obtain⟨z,e1,_⟩:=hxv
      rw[e1]
      exact⟨fun op=>z03 (by simp) (by simp),by simp,by simp,by simp,by simp⟩
     .cases hb
    | bool =>
     simp only[eqS]at hb
     split at hb
     .rw[VRel.bool_inv hxv];exact⟨fun op=>z03 (by simp) (by simp),by simp,by simp,by simp,by simp⟩
     .cases hb
    | ptr =>
     simp only[eqS]at hb
     split at hb
     .have e1:a.eval x=.pointer none:=hxv
      rw[e1];exact⟨fun op=>z03 (by simp) (by simp),by simp,by simp,by simp,by simp⟩
     .have e1:a.eval x=.pointer none:=hxv
      rw[e1];exact⟨fun op=>z03 (by simp) (by simp),by simp,by simp,by simp,by simp⟩
     .obtain⟨z,_,e1⟩:=hxv
      rw[e1];exact⟨fun op=>z03 (by simp) (by simp),by simp,by simp,by simp,by simp⟩
     .obtain⟨z,_,e1⟩:=hxv
      rw[e1];exact⟨fun op=>z03 (by simp) (by simp),by simp,by simp,by simp,by simp⟩
     .cases hb
    | sl =>
     simp only[eqS]at hb
     split at hb
     .have e1:a.eval x=.slice none 0 0:=hxv
      rw[e1];exact⟨fun op=>z03 (by simp) (by simp),by simp,by simp,by simp,by simp⟩
     .have e1:a.eval x=.slice none 0 0:=hxv
      rw[e1];exact⟨fun op=>z03 (by simp) (by simp),by simp,by simp,by simp,by simp⟩
     .obtain⟨z,ad,c,_,e1,_⟩:=hxv
      rw[e1];exact⟨fun op=>z03 (by simp) (by simp),by simp,by simp,by simp,by simp⟩
     .cases hb
    | map =>
     simp only[eqS]at hb
     split at hb
     .have e1:a.eval x=.map none:=hxv
      rw[e1];exact⟨fun op=>z03 (by simp) (by simp),by simp,by simp,by simp,by simp⟩
     .have e1:a.eval x=.map none:=hxv
      rw[e1];exact⟨fun op=>z03 (by simp) (by simp),by simp,by simp,by simp,by simp⟩
     .obtain⟨z,_,e1⟩:=hxv
      rw[e1];exact⟨fun op=>z03 (by simp) (by simp),by simp,by simp,by simp,by simp⟩
     .cases hb
    | func =>
     simp only[eqS]at hb
     split at hb
     .have e1:a.eval x=.nilFunc:=hxv
      rw[e1];exact⟨fun op=>z03 (by simp) (by simp),by simp,by simp,by simp,by simp⟩
     .have e1:a.eval x=.nilFunc:=hxv
      rw[e1];exact⟨fun op=>z03 (by simp) (by simp),by simp,by simp,by simp,by simp⟩
     .obtain⟨z,z',e1,_⟩:=hxv
      rw[e1];exact⟨fun op=>z03 (by simp) (by simp),by simp,by simp,by simp,by simp⟩
     .cases hb
   | cells qs =>
    simp only[eqV]at hb
    split at hb
    .rename_i l m e1 e2
     rw[e1]at hxv
     rw[e2]at hyv
     obtain⟨us,g1,hl⟩:=hxv
     obtain⟨vs,g2,hm⟩:=hyv
     rw[g1,g2]
     rcases hk with⟨fs,h1,h2,h3⟩ | ⟨n,e,q,h1,h2,h3,h4,h5⟩
     .have hu:=hT.und h1
      have hfs:P.fieldsOf ty=fs:=by simp[Program.fieldsOf,hu]
      have he:(Op.equal ty (.agg us) (.agg vs)).run P w=.ok b w:=by
       show(Op.equalIn (9999+1) ty (.agg us) (.agg vs)).run P w=_
       rw[run_equalIn_struct w 9999 ty us vs (by rw[hfs];exact hu) (hT.cmp _ h2),hfs]
       exact j0a hT.toTOk hH hl hm 9998 (i:=0) h3 (by simpa using hb)
      have hgt:P.eqGuardType P.depth ty=false:=by
       rw[hdep]
       simp only[Program.eqGuardType,hu]
       rw[<-Array.any_toList]
       exact z7n hT.toTOk _ h3
      exact⟨he,fun op=>j2i hgt,by simp,by simp,by simp,by simp⟩
     .have hu:=hT.und h1
      subst h5
      have he:(Op.equal ty (.agg us) (.agg vs)).run P w=.ok b w:=by
       show(Op.equalIn (9999+1) ty (.agg us) (.agg vs)).run P w=_
       unfold Tys.size at h4
       cases hg:T.get e with
       | none=>simp[hg]at h4
       | some i =>
        simp only[hg]at h4
        have hc:P.cellsOf e=1:=by
         simp[Program.cellsOf,hT.info _ _ hg]
         simpa using h4
        rw[run_equalIn_array w 9999 us vs hu (hT.info _ _ hg),hc,List.range_eq_range']
        exact z7z hT.toTOk hH hl hm h2 h3 9998 (i:=0) (by simpa using hb)
      have hgt:P.eqGuardType P.depth ty=false:=by
       rw[hdep]
       simp only[Program.eqGuardType,hu]
       exact z58 hT.toTOk h2 _
      exact⟨he,fun op=>j2i hgt,by simp,by simp,by simp,by simp⟩
    .cases hb
  obtain⟨he,hg,h1,h2,h3,h4⟩:=main
  obtain⟨r1,r2⟩:=q6f he h1 h2 h3 h4
  cases neg
  .simp[execOp,ho,hg,r1]
  .simp[execOp,ho,hg,r2]
 .cases h
end
section
variable{P:Program}{T:Tys}{B:Nat}{φ:Emb}{H:AHeap}{w:World}{nt:Nat}{t:PT AVal}{a:Act}
def j8s(P:Program)(w:World)(kt:TypeId)(u v:Value)(r:Bool) :Prop :=
 (∃ d,P.underlying kt=some d/\((Instr.sameNow d u v=some r)\/((∀ x y,Instr.sameNow d x y=none)/\(Op.equal kt u v).run P w=.ok r w)))/\(r=true↔u=v)
theorem q0o(s r:List Nat) :((s.map UInt8.ofNat==r.map UInt8.ofNat)=true)↔strV s=strV r:=by
 rw[beq_iff_eq]
 exact⟨fun h=>by unfold strV;rw[h],fun h=>by have:=congrArg ByteArray.toList h;rwa [z1u,z1u]at this⟩
theorem j46{k q:IntKind}{a b:Int}{u:Value}(h:VRel φ (.agg [.int k a,.int q b]) u) :u=.agg #[.int k a,.int q b]:=by
 obtain⟨us,rfl,v1,vs1,e1,h1,v2,vs2,e2,h2,e3⟩:=h
 have e3:vs2=[]:=e3
 subst e2 e3
 rw[VRel.int_inv h1,VRel.int_inv h2]at e1
 have:us=#[.int k a,.int q b]:=Array.ext' e1
 rw[this]
theorem y21{x y:AVal}{r:Bool}(h:eqS H .pair x y=some r) :∃ k q a b a' b',x=.agg [.int k a,.int q b]/\y=.agg [.int k a',.int q b']/\r=(eqI a a' && eqI b b'):=by
 simp only[eqS]at h
 split at h
 .split at h
  .rename_i k a q b k' a' q' b' e1 e2
   have e1:=z6r.1 e1
   have e2:=z6r.1 e2
   subst e1 e2
   exact⟨_,_,_,_,_,_,rfl,rfl,(Option.some.inj h).symm⟩
  .cases h
 .cases h
theorem j9q{k:AVal}(h:z3o .pair k=true) :∃ i j a b,k=.agg [.int i a,.int j b]:=by
 simp only[z3o]at h
 split at h
 .exact⟨_,_,_,_,rfl⟩
 .cases h
theorem z8m(hT:TOk T P)(hH:HRel T B φ H w){kt:TypeId}{q:EqK}(hk:z18 T kt=some q){x y:AVal}{u v:Value}(hx:VRel φ x u)(hy:VRel φ y v){r:Bool}(h:eqS H q x y=some r) :j8s P w kt u v r:=by
 unfold z18 at hk
 split at hk
 .rename_i k hu
  cases hk
  simp only[eqS]at h
  split at h
  .split at h
   .rename_i k1 n1 k2 n2 e
    cases h
    rw[VRel.int_inv hx,VRel.int_inv hy,<-z6r.1 e,j32]
    exact⟨⟨_,hT.und hu,.inl (by simp[Instr.sameNow])⟩,by simp⟩
   .cases h
  .cases h
 .rename_i hu
  cases hk
  simp only[eqS]at h
  split at h
  .cases h
   obtain⟨e1,h1⟩:=VRel.str_inv hx
   obtain⟨e2,h2⟩:=VRel.str_inv hy
   rw[e1,e2]
   have hb:∀ s r:List Nat,(strV s==strV r)=(s.map UInt8.ofNat==r.map UInt8.ofNat):=by
    intro s r;rw[beq_toListBytes,z1u,z1u]
   refine⟨⟨_,hT.und hu,.inl (by simp[Instr.sameNow,z6i h1 h2,hb])⟩,?_⟩
   rw[z6i h1 h2,q0o]
   simp
  .cases h
 .rename_i e hu
  split at hk
  .rename_i n hn
   cases hk
   refine⟨⟨_,hT.und hu,.inr ⟨fun _ _=>by simp[Instr.sameNow],j31 hT hH hx hy (q:=.ptr) ⟨_,_,hu,hn⟩ h 9999⟩⟩,?_⟩
   simp only[eqS]at h
   split at h
   .cases h
    have e1:u=.pointer none:=hx
    have e2:v=.pointer none:=hy
    simp[e1,e2]
   .cases h
    have e1:u=.pointer none:=hx
    obtain⟨z,hz,e2⟩:=hy
    simp[e1,e2]
   .cases h
    have e2:v=.pointer none:=hy
    obtain⟨z,hz,e1⟩:=hx
    simp[e1,e2]
   .rename_i b o b' o'
    obtain⟨z,hz,e1⟩:=hx
    obtain⟨z',hz',e2⟩:=hy
    rw[e1,e2]
    split at h
    .rename_i hb
     have:=Pos.beq_eq.1 hb
     subst this
     rw[hz]at hz'
     cases hz'
     cases h
     constructor
     .intro h;rw[Nat.eq_of_beq_eq_true h]
     .intro h
      simp at h
      rw[h];exact Nat.beq_refl _
    .rename_i hb
     split at h
     .rename_i l1 l2
      cases h
      have hc:=hH.inj b b' z z' (Pos.beq_ne hb) (j5b hH hz l1).1 (j5b hH hz' l2).1 hz hz'
      simp[hc]
     .cases h
   .cases h
  .cases hk
 .rename_i n e hu
  split at hk
  .rename_i k0 h2 h3 h4
   cases hk
   obtain⟨k,q,a,b,a',b',rfl,rfl,rfl⟩:=y21 h
   obtain⟨us,g1,hl⟩:=id hx
   obtain⟨vs,g2,hm⟩:=id hy
   refine⟨⟨_,hT.und hu,.inr ⟨fun _ _=>by simp[Instr.sameNow],?_⟩⟩,?_⟩
   .rw[g1,g2]
    show(Op.equalIn (9999+1) kt (.agg us) (.agg vs)).run P w=_
    unfold Tys.size at h4
    cases hg:T.get e with
    | none=>simp[hg]at h4
    | some i =>
     simp only[hg]at h4
     have hc:P.cellsOf e=1:=by
      simp[Program.cellsOf,hT.info _ _ hg]
      simpa using h4
     rw[run_equalIn_array w 9999 us vs (hT.und hu) (hT.info _ _ hg),hc,List.range_eq_range']
     refine z7z hT hH hl hm (q:=.int) (by simp[z8u,h2]) h3 9998 (i:=0) ?_
     simp only[List.replicate,List.drop_zero,eqL,eqS,z6r.2 rfl]
     cases eqI a a'<;>cases eqI b b'<;>rfl
   .rw[j46 hx,j46 hy]
    simp[j32]
  .cases hk
 .cases hk
def z2z(r:MapEntry->Bool) :List MapEntry->Nat->Option (Nat×Value)
 | [],_=>none
 | e::es,i=>match r e with
  | true=>some (i,e.val)
  | false=>z2z r es (i+1)
theorem j1i{kt:TypeId}{u:Value}{r:MapEntry->Bool}{es:List MapEntry}(h:∀ e∈es,j8s P w kt u e.key (r e)){d:TypeDesc}(hd:P.underlying kt=some d) :
  (Instr.findKey kt u es).run P w=.ok (z2z r es 0) w:=by
 have now:∀ (es:List MapEntry) (i:Nat),(∀ e∈es,Instr.sameNow d u e.key=some (r e))->Instr.findNow d u es i=some (z2z r es i):=by
  intro es
  induction es with
  | nil=>intro i _;rfl
  | cons e es ih =>
   intro i he
   have h1:=he e (by simp)
   simp only[Instr.findNow,h1,z2z]
   cases r e
   .exact ih (i+1) (fun e' h'=>he e' (List.mem_cons_of_mem _ h'))
   .rfl
 have ask:∀ (es:List MapEntry) (i:Nat),(∀ e∈es,(Op.equal kt u e.key).run P w=.ok (r e) w)->(Instr.findAsking kt u es i).run P w=.ok (z2z r es i) w:=by
  intro es
  induction es with
  | nil=>intro i _;rfl
  | cons e es ih =>
   intro i he
   have h1:=he e (by simp)
   simp only[Instr.findAsking,Sem.run_bind,h1,z2z,Result.andThen_ok]
   cases r e
   .simpa using ih (i+1) (fun e' h'=>he e' (List.mem_cons_of_mem _ h'))
   .rfl
 unfold Instr.findKey
 simp only[Sem.run_bind,run_underlying hd,Result.andThen_ok]
 by_cases hs:∀ x y,Instr.sameNow d x y=none
 .cases es with
  | nil=>simp[Instr.findNow,z2z]
  | cons e es =>
   have hall:∀ e'∈e::es,(Op.equal kt u e'.key).run P w=.ok (r e') w:=by
    intro e' he'
    obtain⟨⟨d',g1,g2⟩,_⟩:=h e' he'
    rw[hd]at g1
    cases g1
    rcases g2 with g2 | ⟨_,g2⟩
    .rw[hs]at g2;cases g2
    .exact g2
   have hn:Instr.findNow d u (e::es) 0=none:=by simp[Instr.findNow,hs]
   simp only[hn]
   exact ask _ 0 hall
 .have hall:∀ e'∈es,Instr.sameNow d u e'.key=some (r e'):=by
   intro e' he'
   obtain⟨⟨d',g1,g2⟩,_⟩:=h e' he'
   rw[hd]at g1
   cases g1
   rcases g2 with g2 | ⟨g2,_⟩
   .exact g2
   .exact absurd g2 hs
  rw[now es 0 hall]
  rfl
theorem z07(hT:TOk T P){kt:TypeId}{q:EqK}(hk:z18 T kt=some q){k:AVal}{u:Value}(hu:VRel φ k u)(hf:z3o q k=true)(b:Bool) :(Instr.checkKey b 10000 kt u).run P w=.ok () w:=by
 unfold z18 at hk
 have go:∀ d,P.underlying kt=some d->(∀ m,d≠.interface m)->(∀ n e,d≠.array n e)->(∀ f,d≠.struct f)->(Instr.checkKey b 10000 kt u).run P w=.ok () w:=by
  intro d hd h1 h2 h3
  have hu:∀ n,Instr.checkKey b (n+1) kt u=Instr.checkKey b (n+1) kt u:=fun _=>rfl
  rw[show(10000:Nat)=9999+1 from rfl]
  generalize 9999=n
  unfold Instr.checkKey
  simp only[Sem.run_bind,run_underlying hd,Result.andThen_ok]
  cases d<;>first
   | exact absurd rfl (h1 _)
   | exact absurd rfl (h2 _ _)
   | exact absurd rfl (h3 _)
   | rfl
 split at hk
 .rename_i hu;exact go _ (hT.und hu) (by simp) (by simp) (by simp)
 .rename_i hu;exact go _ (hT.und hu) (by simp) (by simp) (by simp)
 .rename_i hu;exact go _ (hT.und hu) (by simp) (by simp) (by simp)
 .rename_i n e hu'
  split at hk
  .rename_i k0 h2 h3 h4
   cases hk
   obtain⟨i,j,x,y,rfl⟩:=j9q hf
   obtain⟨us,rfl,hl⟩:=hu
   have go1:∀ v,(Instr.checkKey b 9999 e v).run P w=.ok () w:=by
    intro v
    rw[show(9999:Nat)=9998+1 from rfl]
    generalize 9998=n
    unfold Instr.checkKey
    simp only[Sem.run_bind,run_underlying (hT.und h2),Result.andThen_ok]
    rfl
   obtain⟨v1,p1,_⟩:=z9b (P:=P) (w:=w) hT h3 hl (i:=0) rfl
   obtain⟨v2,p2,_⟩:=z9b (P:=P) (w:=w) hT h3 hl (i:=1) rfl
   have hs:=hT.run_size h4 w
   rw[show(10000:Nat)=9999+1 from rfl]
   generalize 9999=n at go1
   unfold Instr.checkKey
   simp only[Sem.run_bind,run_underlying (hT.und hu'),Result.andThen_ok]
   simp only[Std.Legacy.Range.forIn_eq_forIn_range',Std.Legacy.Range.size,Nat.sub_zero,Nat.add_sub_cancel,Nat.div_one,List.range'_succ,List.range'_zero,List.forIn_cons,List.forIn_nil]
   simp[hs,p1,p2,go1]
  .cases hk
 .cases hk
theorem z4p{q:EqK}{k:AVal} :∀ {es:List (AVal×AVal)} {res:Option AVal},findKey H q k es=some res →
  (∀ p∈es,∃ r,eqS H q k p.1=some r) ∧
  (match res with
   | none=>∀ p∈es,eqS H q k p.1=some false
   | some v=>∃ es1 k' es2,es=es1++(k',v)::es2/\eqS H q k k'=some true/\(∀ p∈es1,eqS H q k p.1=some false)/\∀ p∈es2,eqS H q k p.1=some false)
 | [],res,h=>by
  simp[findKey]at h
  subst h
  exact⟨by simp,by simp⟩
 | (k',v)::es,res,h=>by
  simp only[findKey]at h
  split at h
  .rename_i he
   split at h
   .rename_i hr
    cases h
    obtain⟨g1,g2⟩:=z4p hr
    simp only at g2
    refine⟨?_,[],k',es,rfl,he,by simp,g2⟩
    intro p hp
    rcases List.mem_cons.1 hp with rfl | hp
    .exact⟨_,he⟩
    .exact g1 p hp
   .cases h
  .rename_i he
   obtain⟨g1,g2⟩:=z4p h
   refine⟨?_,?_⟩
   .intro p hp
    rcases List.mem_cons.1 hp with rfl | hp
    .exact⟨_,he⟩
    .exact g1 p hp
   .cases res with
    | none =>
     simp only at g2 ⊢
     intro p hp
     rcases List.mem_cons.1 hp with rfl | hp
     .exact he
     .exact g2 p hp
    | some v' =>
     simp only at g2 ⊢
     obtain⟨es1,k1,es2,e1,e2,e3,e4⟩:=g2
     refine⟨(k',v)::es1,k1,es2,by rw[e1];rfl,e2,?_,e4⟩
     intro p hp
     rcases List.mem_cons.1 hp with rfl | hp
     .exact he
     .exact e3 p hp
  .cases h
theorem z8r{r:MapEntry->Bool} :∀ {es:List MapEntry} {i:Nat},(∀ e∈es,r e=false)->z2z r es i=none
 | [],i,_=>rfl
 | e::es,i,h=>by
  simp only[z2z,h e (by simp)]
  exact z8r fun e' h'=>h e' (List.mem_cons_of_mem _ h')
theorem z51{r:MapEntry->Bool}{e:MapEntry}{E2:List MapEntry} :∀ {E1:List MapEntry} {i:Nat},(∀ e∈E1,r e=false)->r e=true->z2z r (E1++e::E2) i=some (i+E1.length,e.val)
 | [],i,_,h=>by simp[z2z,h]
 | e'::E1,i,h,h'=>by
  simp only[List.cons_append,z2z,h e' (by simp)]
  rw[z51 (fun e'' h''=>h e'' (List.mem_cons_of_mem _ h'')) h']
  simp;omega
theorem LRel.mem{l:List AVal}{vs:List Value}(h:LRel φ l vs){v:Value}(hv:v∈vs) :∃ a∈l,VRel φ a v:=by
 induction l generalizing vs with
 | nil=>simp only[LRel]at h;subst h;cases hv
 | cons b l ih =>
  obtain⟨u,us,rfl,h2,h3⟩:=h
  rcases List.mem_cons.1 hv with rfl | hv
  .exact⟨b,by simp,h2⟩
  .obtain⟨a,ha,hr⟩:=ih h3 hv
   exact⟨a,List.mem_cons_of_mem _ ha,hr⟩
theorem y26{α β:Type}(f:α->β)(l1 l2:List α)(x:α) :((l1++x::l2).map f).drop (l1.length+1)=l2.map f:=by
 rw[<-List.map_drop]
 congr 1
 rw[show l1++x::l2=(l1++[x])++l2 by simp,List.drop_left' (by simp)]
theorem z2f(hT:TOk T P)(hH:HRel T B φ H w){es:List (AVal×AVal)}{es':Array MapEntry}{clock:Nat}(hm:z6n φ es es' clock){kt:TypeId}{q:EqK}(hk:z18 T kt=some q){k:AVal}{u:Value}(hu:VRel φ k u)
  {res:Option AVal} (h:findKey H q k es=some res) :
  (match res with
   | none=>(Instr.findKey kt u es'.toList).run P w=.ok none w/\(∀ e∈es'.toList,e.key≠u)
   | some v=>∃ E1 e0 E2 es1 k' es2 l1 l2,es'.toList=E1++e0::E2/\(Instr.findKey kt u es'.toList).run P w=.ok (some (E1.length,e0.val)) w/\VRel φ v e0.val/\e0.key=u ∧
       es=es1++(k',v)::es2/\eqS H q k k'=some true/\(l1++e0::l2).Perm es'.toList/\LRel φ (es1.map (·.1)) (l1.map (·.key))/\LRel φ (es2.map (·.1)) (l2.map (·.key)) ∧
       LRel φ (es1.map (·.2)) (l1.map (·.val))/\LRel φ (es2.map (·.2)) (l2.map (·.val))/\VRel φ k' e0.key):=by
 obtain⟨hall,hres⟩:=z4p h
 obtain⟨⟨l,p1,p2,p3⟩,hnb,hb,hnk⟩:=hm
 have hpos:∀ (i:Nat) (e:MapEntry),l[i]? = some e->∃ p,es[i]? = some p/\VRel φ p.1 e.key/\VRel φ p.2 e.val:=by
  intro i e he
  have hlen:=p2.length
  simp at hlen
  have hi:i<l.length:=by
   rcases Nat.lt_or_ge i l.length with h | h
   .exact h
   .rw[List.getElem?_eq_none h]at he;cases he
  have hi':i<es.length:=by omega
  refine⟨es[i],by simp[hi'],?_,?_⟩
  .obtain⟨v,g1,g2⟩:=p2.get (i:=i) (a:=es[i].1) (by simp[hi'])
   simp[he]at g1
   rw[g1];exact g2
  .obtain⟨v,g1,g2⟩:=p3.get (i:=i) (a:=es[i].2) (by simp[hi'])
   simp[he]at g1
   rw[g1];exact g2
 have hrun:∀ e∈es'.toList,∃ r,j8s P w kt u e.key r:=by
  intro e he
  obtain⟨i,hi⟩:=List.getElem?_of_mem (p1.mem_iff.2 he)
  obtain⟨p,g1,g2,_⟩:=hpos i e hi
  obtain⟨r,hr⟩:=hall p (List.mem_of_getElem? g1)
  exact⟨r,z8m hT hH hk hu g2 hr⟩
 classical
 let r:MapEntry->Bool:=fun e=>decide (u=e.key)
 have hrun':∀ e∈es'.toList,j8s P w kt u e.key (r e):=by
  intro e he
  obtain⟨b,hb⟩:=hrun e he
  have:r e=b:=by
   cases b with
   | true=>exact decide_eq_true (hb.2.1 rfl)
   | false =>
    refine decide_eq_false fun e'=>?_
    have:=hb.2.2 e'
    cases this
  rw[this];exact hb
 have hd:∃ d,P.underlying kt=some d:=by
  unfold z18 at hk
  split at hk
  .exact⟨_,hT.und ‹_›⟩
  .exact⟨_,hT.und ‹_›⟩
  .exact⟨_,hT.und ‹_›⟩
  .exact⟨_,hT.und ‹_›⟩
  .cases hk
 obtain⟨d,hd⟩:=hd
 have hf:=j1i hrun' hd
 cases res with
 | none =>
  simp only at hres ⊢
  have hne:∀ e∈es'.toList,e.key≠u:=by
   intro e he heq
   obtain⟨i,hi⟩:=List.getElem?_of_mem (p1.mem_iff.2 he)
   obtain⟨p,g1,g2,_⟩:=hpos i e hi
   have:=hres p (List.mem_of_getElem? g1)
   have hb:=(z8m hT hH hk hu g2 this).2.2 heq.symm
   cases hb
  refine⟨?_,hne⟩
  rw[hf,z8r]
  intro e he
  exact decide_eq_false fun h=>hne e he h.symm
 | some v =>
  simp only at hres ⊢
  obtain⟨es1,k',es2,e1,e2,e3,e4⟩:=hres
  have hlen:=p2.length
  simp at hlen
  have hi:es1.length<l.length:=by rw[hlen,e1];simp
  obtain⟨e0,he0⟩ :∃ e0,l[es1.length]? = some e0:=⟨_,List.getElem?_eq_getElem hi⟩
  obtain⟨p,g1,g2,g3⟩:=hpos _ e0 he0
  have hp:p=(k',v):=by
   rw[e1]at g1
   simp at g1
   exact g1.symm
  subst hp
  have hkey:e0.key=u:=((z8m hT hH hk hu g2 e2).2.1 rfl).symm
  have hsplit:l=l.take es1.length++e0::l.drop (es1.length+1):=by
   have:l[es1.length]=e0:=by
    rw[List.getElem?_eq_getElem hi]at he0
    exact Option.some.inj he0
   rw[<-this]
   simp
  have hmem:e0∈es'.toList:=p1.mem_iff.1 (List.mem_of_getElem? he0)
  obtain⟨E1,E2,hE⟩:=List.append_of_mem hmem
  have hne1:∀ e∈E1,r e=false:=by
   intro e he
   refine decide_eq_false fun h=>?_
   rw[hE]at hnk
   simp only[List.map_append,List.map_cons]at hnk
   have:=(List.nodup_append.1 hnk).2.2 e.key (List.mem_map.2 ⟨e,he,rfl⟩) e0.key (by simp)
   exact this (by rw[<-h,hkey])
  refine⟨E1,e0,E2,es1,k',es2,l.take es1.length,l.drop (es1.length+1),hE,?_,g3,hkey,e1,e2,by rw[<-hsplit];exact p1,?_,?_,?_,?_,g2⟩
  .rw[hf,hE,z51 hne1 (decide_eq_true hkey.symm)]
   simp
  .have:=p2.take es1.length
   rw[e1]at this
   simpa using this
  .have:=p2.drop (es1.length+1)
   rw[e1,y26]at this
   simpa using this
  .have:=p3.take es1.length
   rw[e1]at this
   simpa using this
  .have:=p3.drop (es1.length+1)
   rw[e1,y26]at this
   simpa using this
end
section
variable{P:Program}{T:Tys}{B:Nat}{φ:Emb}{H:AHeap}{w:World}{nt:Nat}{t:PT AVal}{a:Act}
theorem j3r(φ:Emb) :z6n φ [] #[] 0:=⟨⟨[],by simp,rfl,rfl⟩,by simp,by simp,by simp⟩
def z9f(z:AVal)(ok:Bool) :Option AVal->AVal
 | some v=>match ok with | true=>.tup [v,.bool true] | false=>v
 | none=>match ok with | true=>.tup [z,.bool false] | false=>z
theorem z9e(hT:TOk T P){ty kt e:TypeId}(hs:T.und ty=some (.map kt e)){q:EqK}(hk:z18 T kt=some q){z:AVal}(hz:z3c T e=some z)
  {kk:AVal} {u:Value} (hku:VRel φ kk u) (hfit:z3o q kk=true) {m:Value} {es':Array MapEntry} (hes:(m=.map none/\es'=#[])\/(∃ r clock,m=.map (some r)/\w.heap[r]? = some (.map es' clock))) {ok:Bool}
  {f:Option (Nat×Value)} (hf:(Instr.findKey kt u es'.toList).run P w=.ok f w) {res:Option AVal}
  (hres:match res with | none=>f=none | some v=>∃ i x,f=some (i,x)/\VRel φ v x) :
  ∃ r,(Instr.lookup ty m u ok).run P w=.ok r w/\VRel φ (z9f z ok res) r:=by
 obtain⟨zv,hzr,hzc⟩:=hT.run_zero hz w
 rcases hes with⟨rfl,rfl⟩ | ⟨r,clock,rfl,hg⟩
 .cases res with
  | none =>
   simp only at hres
   subst hres
   cases ok
   .exact⟨zv,by simp[Instr.lookup,hT.run_und hs,z07 hT hk hku hfit,hf,hzr],z4h hzc⟩
   .exact⟨.tuple #[zv,.bool false],by simp[Instr.lookup,hT.run_und hs,z07 hT hk hku hfit,hf,hzr],_,rfl,_,_,rfl,z4h hzc,_,_,rfl,rfl,rfl⟩
  | some v =>
   obtain⟨i,x,rfl,hv⟩:=hres
   cases ok
   .exact⟨x,by simp[Instr.lookup,hT.run_und hs,z07 hT hk hku hfit,hf],hv⟩
   .exact⟨.tuple #[x,.bool true],by simp[Instr.lookup,hT.run_und hs,z07 hT hk hku hfit,hf],_,rfl,_,_,rfl,hv,_,_,rfl,rfl,rfl⟩
 .have hg':=z2s (P:=P) hg (by simp)
  cases res with
  | none =>
   simp only at hres
   subst hres
   cases ok
   .exact⟨zv,by simp[Instr.lookup,hT.run_und hs,z07 hT hk hku hfit,hg',hf,hzr],z4h hzc⟩
   .exact⟨.tuple #[zv,.bool false],by simp[Instr.lookup,hT.run_und hs,z07 hT hk hku hfit,hg',hf,hzr],_,rfl,_,_,rfl,z4h hzc,_,_,rfl,rfl,rfl⟩
  | some v =>
   obtain⟨i,x,rfl,hv⟩:=hres
   cases ok
   .exact⟨x,by simp[Instr.lookup,hT.run_und hs,z07 hT hk hku hfit,hg',hf],hv⟩
   .exact⟨.tuple #[x,.bool true],by simp[Instr.lookup,hT.run_und hs,z07 hT hk hku hfit,hg',hf],_,rfl,_,_,rfl,hv,_,_,rfl,rfl,rfl⟩
theorem j67(hT:TOk T P)(hH:HRel T B φ H w)(ht:TRel φ nt t a.tmps){o:Oper}{ty kt e:TypeId}{x k:Operand}{ok:Bool}(ho:o.op=.lookup ty x k ok){ax ak:AOpnd}(hx:opnd T x=some ax)(hkx:opnd T k=some ak)
  (hs:T.und ty=some (.map kt e)) {q:EqK} (hk:z18 T kt=some q) {z:AVal} (hz:z3c T e=some z)
  {v:AVal} (h:quiet t H (.lookup q z ax ak ok)=some v) :∃ u,(execOp a.eval o).run P w=.ok (.value u) w/\VRel φ v u:=by
 simp only[quiet]at h
 cases hfit:z3o q (ak.ev t)with
 | false=>rw[hfit]at h;cases h
 | true =>
 rw[hfit]at h
 simp only at h
 have hxv:=z0m hH ht hx
 have hkv:=z0m hH ht hkx
 have fin:∀ {r:Option AVal},(∃ u,(Instr.lookup ty (a.eval x) (a.eval k) ok).run P w=.ok u w/\VRel φ (z9f z ok r) u)->z9f z ok r=v →
   ∃ u,(execOp a.eval o).run P w=.ok (.value u) w/\VRel φ v u:=by
  intro r ⟨u,h1,h2⟩ h3
  exact⟨u,by simp[execOp,ho,h1],h3▸h2⟩
 generalize ax.ev t=X at h hxv
 have main:∀ r,(match X with
   | .mnil=>some none
   | .map b=>match z3n (PT.get b H.t)with
    | some es=>findKey H q (ak.ev t) es
    | _=>none
   | _=>none)=some r->∃ u,(Instr.lookup ty (a.eval x) (a.eval k) ok).run P w=.ok u w/\VRel φ (z9f z ok r) u:=by
  intro r e1
  split at e1
  .cases e1
   have he:a.eval x=.map none:=hxv
   exact z9e hT hs hk hz hkv hfit (es':=#[]) (f:=none) (res:=none) (.inl ⟨he,rfl⟩) (z2f (q:=q) hT hH (j3r φ) hk hkv (res:=none) rfl).1 rfl
  .rename_i b
   split at e1
   .rename_i es hg
    obtain⟨y,hy,he⟩:=hxv
    obtain⟨es',clock,g1,g2⟩:=j33 hH hy hg
    cases r with
    | none=>exact z9e hT hs hk hz hkv hfit (es':=es') (f:=none) (res:=none) (.inr ⟨_,_,he,g1⟩) (z2f hT hH g2 hk hkv e1).1 rfl
    | some v0 =>
     obtain⟨E1,e0,E2,es1,k',es2,l1,l2,i1,i2,i3,i4,i5⟩:=z2f hT hH g2 hk hkv e1
     exact z9e hT hs hk hz hkv hfit (es':=es') (res:=some v0) (.inr ⟨_,_,he,g1⟩) i2 ⟨_,_,rfl,i3⟩
   .cases e1
  .cases e1
 split at h
 .rename_i v0 e1
  exact fin (main _ e1) (by simp only[z9f];exact Option.some.inj h)
 .rename_i e1
  exact fin (main _ e1) (by simp only[z9f];exact Option.some.inj h)
 .cases h
end
end Go.Am
