import Derived.Test.YtepncpggenncoaaGreatDoorAm16
set_option linter.unusedSimpArgs false
set_option linter.unusedVariables false
set_option maxHeartbeats 8000000
namespace Go.Am
open Go
section
variable{E:Env}{ro:Option Pos}{ds:List ADef}{d:Option Pos}{t:PT AVal}{H:AHeap}{l:List AOper}{ld:List ADraw}{Q:PT AVal->AHeap->Prop}{S:z2i}{seen:List Seen}
def KReg(ds:List ADef)(S:z2i) :PT AVal->AHeap->Prop:=fun t H=>S .normal ⟨t,ds⟩ H
def WP(E:Env)(ro:Option Pos) :ACode->AAct->AHeap->z2i->Prop
 | .skip,a,H,S=>S .normal a H
 | .ret,a,H,S=>S .ret a H
 | .exit i,a,H,S=>S (.exit i) a H
 | .region l,a,H,S=>WO E a.ds l a.t H (KReg a.ds S)
 | .draw l,a,H,S=>WD E a.ds l a.t H [] (KReg a.ds S)
 | .seq x y,a,H,S=>WP E ro x a H (fun e a' H'=>match e with
  | .normal=>WP E ro y a' H' S
  | .ret=>S .ret a' H'
  | .exit i=>S (.exit i) a' H'
  | .goto _=>False)
 | .cond x c1 c2,a,H,S=>match x.ev a.t with
  | .bool true=>WP E ro c1 a H S
  | .bool false=>WP E ro c2 a H S
  | _=>False
 | .block i b,a,H,S=>WP E ro b a H (inBlock i S)
 | c,a,H,S=>W E c ro a H S
def KSeq(E:Env)(ro:Option Pos)(y:ACode)(S:z2i) :z2i:=fun e a' H'=>match e with
  | .normal=>WP E ro y a' H' S
  | .ret=>S .ret a' H'
  | .exit i=>S (.exit i) a' H'
  | .goto _=>False
theorem WP.w:∀ {c:ACode} {a:AAct} {H:AHeap} {S:z2i},WP E ro c a H S->W E c ro a H S
 | .skip,a,H,S,h=>W.skip h
 | .ret,a,H,S,h=>W.ret h
 | .exit i,a,H,S,h=>W.exit h
 | .region l,a,H,S,h=>W.region h
 | .draw l,a,H,S,h=>W.draw h
 | .seq x y,a,H,S,h=>W.seq (W.mono (WP.w (c:=x) h) (by
   intro e a' H' q
   cases e with
   | normal=>exact WP.w (c:=y) q
   | ret=>exact q
   | exit i=>exact q
   | goto l=>exact q))
 | .cond x c1 c2,a,H,S,h=>by
  simp only[WP]at h
  split at h
  .rename_i hx;exact W.cond_true hx (WP.w h)
  .rename_i hx;exact W.cond_false hx (WP.w h)
  .cases h
 | .block i b,a,H,S,h=>W.block (WP.w (c:=b) h)
 | .loop _,_,_,_,h=>h
 | .rangeFunc _ _ _ _,_,_,_,h=>h
 | .scope _,_,_,_,h=>h
 | .label _,_,_,_,h=>h
 | .goto _,_,_,_,h=>h
 | .bad,_,_,_,h=>h
theorem y47{a:AAct} :WP E ro .skip a H S=S .normal a H:=rfl
theorem q28{a:AAct} :WP E ro .ret a H S=S .ret a H:=rfl
theorem y49{a:AAct}{i:Nat} :WP E ro (.exit i) a H S=S (.exit i) a H:=rfl
theorem j6f:WP E ro (.region l) ⟨t,ds⟩ H S=WO E ds l t H (KReg ds S):=rfl
theorem y5a:WP E ro (.draw ld) ⟨t,ds⟩ H S=WD E ds ld t H [] (KReg ds S):=rfl
theorem q27{a:AAct}{x y:ACode} :WP E ro (.seq x y) a H S=WP E ro x a H (KSeq E ro y S):=rfl
theorem y0k{a:AAct}{i:Nat}{b:ACode} :WP E ro (.block i b) a H S=WP E ro b a H (inBlock i S):=rfl
theorem y48{a:AAct}{b:ACode} :WP E ro (.loop b) a H S=W E (.loop b) ro a H S:=rfl
theorem j6g{x:AOpnd}{c1 c2:ACode}(h:x.ev t=.bool true) :WP E ro (.cond x c1 c2) ⟨t,ds⟩ H S=WP E ro c1 ⟨t,ds⟩ H S:=by
 show(match x.ev t with | .bool true=>_ | .bool false=>_ | _=>_)=_
 rw[h]
theorem j6h{x:AOpnd}{c1 c2:ACode}(h:x.ev t=.bool false) :WP E ro (.cond x c1 c2) ⟨t,ds⟩ H S=WP E ro c2 ⟨t,ds⟩ H S:=by
 show(match x.ev t with | .bool true=>_ | .bool false=>_ | _=>_)=_
 rw[h]
theorem y8f:KReg ds S t H=S .normal ⟨t,ds⟩ H:=rfl
theorem q4t{a:AAct}{y:ACode} :KSeq E ro y S .normal a H=WP E ro y a H S:=rfl
theorem q4s{a:AAct}{y:ACode} :KSeq E ro y S .ret a H=S .ret a H:=rfl
theorem q4u{a:AAct}{y:ACode}{i:Nat} :KSeq E ro y S (.exit i) a H=S (.exit i) a H:=rfl
theorem q4w{a:AAct}{i:Nat} :inBlock i S .normal a H=S .normal a H:=rfl
theorem q4v{a:AAct}{i:Nat} :inBlock i S .ret a H=S .ret a H:=rfl
theorem q4x{a:AAct}{i j:Nat} :inBlock i S (.exit j) a H=if i=j then S .normal a H else S (.exit j) a H:=by
 show(match Nat.beq i j with | true=>_ | false=>_)=_
 by_cases h:i=j
 .subst h;simp[j20]
 .rw[j0k h,if_neg h]
def retV:Option (List AVal)->Option AVal
 | some [v]=>some v
 | some l=>some (.tup l)
 | none=>none
def j6c(rs:List (Pos×Option Nat))(R:AVal->AHeap->Prop) :z2i:=fun e a H=>(e=.normal\/e=.ret)/\a.ds=[]/\∃ v,retV (z0u a.t H rs)=some v/\R v H
theorem j7f{rs:List (Pos×Option Nat)}{R:AVal->AHeap->Prop}(h:(retV (z0u t H rs)).isSome=true) :j6c rs R .ret ⟨t,[]⟩ H=R (oget (retV (z0u t H rs))) H:=by
 obtain⟨v,hv⟩:=Option.isSome_iff_exists.1 h
 rw[hv,z5f]
 refine propext ⟨fun⟨_,_,w,e,r⟩=>?_,fun r=>⟨.inr rfl,rfl,v,hv,r⟩⟩
 cases hv.symm.trans e
 exact r
theorem z91{rs:List (Pos×Option Nat)}{R:AVal->AHeap->Prop}(h:(retV (z0u t H rs)).isSome=true) :j6c rs R .normal ⟨t,[]⟩ H=R (oget (retV (z0u t H rs))) H:=by
 obtain⟨v,hv⟩:=Option.isSome_iff_exists.1 h
 rw[hv,z5f]
 refine propext ⟨fun⟨_,_,w,e,r⟩=>?_,fun r=>⟨.inl rfl,rfl,v,hv,r⟩⟩
 cases hv.symm.trans e
 exact r
theorem q36:z0u t H []=some []:=rfl
theorem y6u{p:Pos}{rs:List (Pos×Option Nat)} :z0u t H ((p,none)::rs)=(z0u t H rs).map (tget t p :: ·):=by
 simp only[z0u]
 cases z0u t H rs<;>rfl
theorem y7s{l:List AVal}{f:List AVal->List AVal} :(some l).map f=some (f l):=rfl
theorem rv_1{v:AVal} :retV (some [v])=some v:=rfl
theorem rv_2{v w:AVal}{l:List AVal} :retV (some (v::w::l))=some (.tup (v::w::l)):=rfl
theorem rv_0:retV (some [])=some (.tup []):=rfl
structure Code (E:Env) (f:FuncId) (fi:AFun) :Prop where
 n:PT.get (Pos.ofNat f) E.sums=none
 b:Nat.blt f 2147483648=true
 g:PT.get (Pos.ofNat f) E.fns=some fi
theorem Code.by{f:FuncId}{fi:AFun}(C:Code E f fi){args:List AVal}{t0:PT AVal}(ha:z48 args 0 fi.ntmps .l=some t0){R:AVal->AHeap->Prop}(h:WP E none fi.body ⟨t0,[]⟩ H (j6c fi.results R)) :∃ v H',z0f E f args H v H'/\R v H':=by
 refine z0f.by C.n C.b C.g ha (W.mono (WP.w h) ?_)
 intro e a' H' ⟨h1,h2,v,hv,r⟩
 refine⟨h1,h2,v,?_,r⟩
 rw[<-hv]
 cases hr:z0u a'.t H' fi.results with
 | none=>rfl
 | some l=>match l with
  | []=>rfl
  | [_]=>rfl
  | _::_::_=>rfl
theorem Code.eq{f:FuncId}{fi:AFun}(C:Code E f fi){args:List AVal}{t0:PT AVal}(ha:z48 args 0 fi.ntmps .l=some t0){w:AVal}{H2:AHeap}(h:WP E none fi.body ⟨t0,[]⟩ H (j6c fi.results fun v H'=>v=w/\H'=H2)) :z0f E f args H w H2:=by
 obtain⟨v,H',c,rfl,rfl⟩:=C.by ha h
 exact c
def posS:Pos->Pos
 | .h=>.o .h
 | .o p=>.i p
 | .i p=>.o (posS p)
def lay:List AVal->Pos->PT AVal->PT AVal
 | [],_,t=>t
 | v::l,p,t=>lay l (posS p) (PT.set p (some v) t)
theorem y1v:∀ p:Pos,(posS p).toNat=p.toNat+1
 | .h=>rfl
 | .o p=>by simp only[posS,Pos.toNat]
 | .i p=>by simp only[posS,Pos.toNat,y1v p];omega
theorem q6u{i:Nat}(h:i+1<2147483648) :posS (Pos.ofNat i)=Pos.ofNat (i+1):=by
 apply Pos.toNat_inj
 rw[y1v,Pos.toNat_ofNat (by omega),Pos.toNat_ofNat (by omega)]
theorem z63:∀ (l:List AVal) (i n:Nat) (t:PT AVal),l.length<=n->i+l.length<2147483648->z48 l i n t=some (lay l (Pos.ofNat i) t)
 | [],_,_,_,_,_=>by simp[z48,lay]
 | _::_,_,0,_,h,_=>by simp at h
 | v::l,i,n+1,t,h,h2=>by
  have h2:i+(l.length+1)<2147483648:=h2
  rw[z48,lay,q6u (by omega)]
  exact z63 l (i+1) n _ (by simpa using h) (by omega)
theorem Code.r{f:FuncId}{fi:AFun}(C:Code E f fi){args:List AVal}{R:AVal->AHeap->Prop}(h:WP E none fi.body ⟨lay args .h .l,[]⟩ H (j6c fi.results R))(ha:args.length<=fi.ntmps:=by decide +kernel)(h2:args.length<=100:=by decide) :∃ v H',z0f E f args H v H'/\R v H':=C.by (z63 _ 0 _ _ ha (by omega)) h
theorem Code.e{f:FuncId}{fi:AFun}(C:Code E f fi){args:List AVal}{w:AVal}{H2:AHeap}(h:WP E none fi.body ⟨lay args .h .l,[]⟩ H (j6c fi.results fun v H'=>v=w/\H'=H2))(ha:args.length<=fi.ntmps:=by decide +kernel)(h2:args.length<=100:=by decide) :z0f E f args H w H2:=C.eq (z63 _ 0 _ _ ha (by omega)) h
theorem y8d{p:Pos}{t:PT AVal} :lay [] p t=t:=rfl
theorem y2f{v:AVal}{l:List AVal}{p:Pos}{t:PT AVal} :lay (v::l) p t=lay l (posS p) (PT.set p (some v) t):=rfl
theorem ps_h:posS .h=.o .h:=rfl
theorem ps_o{p:Pos} :posS (.o p)=.i p:=rfl
theorem ps_i{p:Pos} :posS (.i p)=.o (posS p):=rfl
def hget:Option AHeap->AHeap
 | some h=>h
 | none=>⟨.l,.h⟩
theorem j15(h:AHeap) :hget (some h)=h:=rfl
def z57(H:AHeap)(n:Nat)(x y:AVal) :Option AHeap:=match x with
 | .ptr b o=>match z1w y with
  | some vs=>match Nat.beq vs.length n with
   | true=>z05 H b o vs
   | false=>none
  | none=>none
 | _=>none
theorem y5o{n:Nat}{x y:AOpnd}{H':AHeap}(h:z57 H n (x.ev t) (y.ev t)=some H') :z01 t H (.store n x y)=some (.undef,H'):=by
 unfold z57 at h
 simp only[z01]
 split at h
 .rename_i b o hx
  split at h
  .rename_i vs hy
   split at h
   .rename_i hn
    simp only[hx,hy,hn,h]
   .cases h
  .cases h
 .cases h
theorem y7j{n:Nat}{x y:AOpnd}(h:(z57 H n (x.ev t) (y.ev t)).isSome=true) :WO E ds (⟨d,.store n x y,none⟩::l) t H Q↔WO E ds l (tput t d .undef) (hget (z57 H n (x.ev t) (y.ev t))) Q:=by
 obtain⟨v,hv⟩:=Option.isSome_iff_exists.1 h
 rw[hv]
 exact z3w rfl (fun _=>rfl) (y5o hv)
theorem z0c{f:FuncId}{vs:List AVal}{v:AVal}{H':AHeap}(h:z0f E f vs H v H'){args:List AOpnd}(ha:evs t args=vs) :WO E ds (⟨d,.callF f args,none⟩::l) t H Q↔WO E ds l (tput t d v) H' Q:=q5w (ha▸h)
theorem q6z{f:FuncId}{vs:List AVal}{v:AVal}{H':AHeap}(h:z0f E f vs H v H'){x:AOpnd}{args:List AOpnd}{first caps:List AVal}(hx:x.ev t=.func f first caps)(ha:first++(evs t args++caps)=vs) :WO E ds (⟨d,.callV x args,none⟩::l) t H Q↔WO E ds l (tput t d v) H' Q:=by
 have hc:∃ n0,∀ n,n0<=n->z47 E (ev E n) (x.ev t) (evs t args) H=some (v,H'):=by
  obtain⟨n0,h⟩:=h
  exact⟨n0,fun n hn=>by rw[hx];simp only[z47];rw[ha];exact h n hn⟩
 refine⟨?_,fun k=>WO.callV rfl hc k⟩
 obtain⟨n1,h⟩:=hc
 rintro⟨t2,H2,⟨n0,k⟩,q⟩
 exact⟨t2,H2,⟨n0+n1,fun n hn=>by rw[<-z4n (E:=E) (o:=⟨d,.callV x args,none⟩) (t:=t) (H:=H) (v:=v) (H':=H') rfl rfl (h n (by omega))];exact k n (by omega)⟩,q⟩
theorem z0r{sz by':Nat}{sv xv v:AVal}{H':AHeap}(h:z09 H sz by' sv xv=some (v,H')){s x:AOpnd}(hs:s.ev t=sv)(hx:x.ev t=xv) :WO E ds (⟨d,.append sz by' s x,none⟩::l) t H Q↔WO E ds l (tput t d v) H' Q:=z3w rfl (fun _=>rfl) (by simp only[z01];rw[hs,hx];exact h)
def fVs:Option (List AVal)->List AVal
 | some l=>l
 | none=>[]
theorem y2v(l:List AVal) :fVs (some l)=l:=rfl
theorem z93{z:List AVal}{n:Nat}{ps:List (Nat×Nat×AOpnd)}(h:(z32 z t ps).isSome=true) :WO E ds (⟨d,.buildSlice z n ps,none⟩::l) t H Q↔WO E ds l (tput t d (.sl H.nx 0 n n 0)) (H.new (.cells (fVs (z32 z t ps)) false false)).2 Q:=by
 obtain⟨v,hv⟩:=Option.isSome_iff_exists.1 h
 rw[hv]
 exact z3w rfl (fun _=>rfl) (by simp only[z01,hv];rfl)
theorem q94{x:AOpnd}(h:(z1w (x.ev t)).isSome=true) :WO E ds (⟨d,.box x,none⟩::l) t H Q↔WO E ds l (tput t d (.ptr H.nx 0)) (H.new (.cells (fVs (z1w (x.ev t))) false false)).2 Q:=by
 obtain⟨v,hv⟩:=Option.isSome_iff_exists.1 h
 rw[hv]
 exact z3w rfl (fun _=>rfl) (by simp only[z01,hv];rfl)
theorem y7k{z:List AVal}{bytes:Nat}{x y:AOpnd}{k k':IntKind}{n c:Nat}(hx:x.ev t=.int k (.ofNat n))(hy:y.ev t=.int k' (.ofNat c))(h1:(decide (n<=c/\c*bytes<=140737488355328/\c<=140737488355328))=true) :WO E ds (⟨d,.mkSlice z bytes x y,none⟩::l) t H Q↔WO E ds l (tput t d (.sl H.nx 0 n c 0)) (H.new (.cells (repl z c) false false)).2 Q:=by
 have h1:=of_decide_eq_true h1
 refine z3w rfl (fun _=>rfl) ?_
 have e1:z3j (x.ev t)=some n:=by rw[hx];rfl
 have e2:z3j (y.ev t)=some c:=by rw[hy];rfl
 simp only[z01,e1,e2,z4u h1.1,z4u h1.2.2,(show Nat.ble (Nat.mul c bytes) 140737488355328=true from z4u h1.2.1)]
 rfl
theorem j2w{bytes n c:Nat}(h1:n<=c/\c*bytes<=140737488355328/\c<=140737488355328){z:List AVal}{x y:AOpnd}(hx:x.ev t=.int .i64 (.ofNat n))(hy:y.ev t=.int .i64 (.ofNat c)) :WO E ds (⟨d,.mkSlice z bytes x y,none⟩::l) t H Q↔WO E ds l (tput t d (.sl H.nx 0 n c 0)) (H.new (.cells (repl z c) false false)).2 Q:=y7k hx hy (decide_eq_true h1)
theorem j9f{q:EqK}{b:Pos}{kv vv:AVal}{es es':List (AVal×AVal)}(hb:PT.get b H.t=some (.map es))(hp:z3i H q kv vv es=some es'){m k v:AOpnd}(hm:m.ev t=.map b)(hk:k.ev t=kv)(hv:v.ev t=vv)(hf:z3o q kv=true)(hd:j7u v=false) :WO E ds (⟨d,.mapUpdate q m k v,none⟩::l) t H Q↔WO E ds l (tput t d .undef) (H.upd b (.map es')) Q :=
 z3w rfl (fun _=>rfl) (by simp only[z01,j06,hd,hm,hb,hk,hv,hf,hp])
theorem j3p{x:AOpnd}{s:List Nat}(hx:x.ev t=.str s)(hs:s.length<=281474976710656) :WO E ds (⟨d,.conv .strBytes x,none⟩::l) t H Q↔WO E ds l (tput t d (.sl H.nx 0 s.length s.length 1)) (H.new (.cells (z0b s) true false)).2 Q :=
 z3w rfl (fun _=>rfl) (by simp only[z01,hx,z4u hs];rfl)
def y4h:Option (List Seen)->List Seen
 | some l=>l
 | none=>[]
theorem z7d(l:List Seen) :y4h (some l)=l:=rfl
theorem q5u{a:Nat} :z3u a H []=some []:=rfl
theorem q0e{a b:Nat}{t':PT AVal}{op:AOp}{v:AVal}{l:List Seen}(h:decide (a&&&b=0)=false) :z3u a H (⟨t',op,v,b⟩::l)=z3u a H l:=by
 have h:Nat.beq (Nat.land a b) 0=false:=by rw[j7k];exact h
 simp only[z3u,h]
theorem q0f{v:AVal}{a b:Nat}{t':PT AVal}{op:AOp}{l:List Seen}(h:decide (a&&&b=0)=true)(hq:quiet t' H op=some v)(hs:same v v=true) :z3u a H (⟨t',op,v,b⟩::l)=(z3u a H l).map (⟨t',op,v,b⟩ :: ·):=by
 have h:Nat.beq (Nat.land a b) 0=true:=by rw[j7k];exact h
 simp only[z3u,h,hq,hs]
 cases z3u a H l<;>rfl
theorem y7l{l:List Seen}{f:List Seen->List Seen} :(some l).map f=some (f l):=rfl
theorem j98{o:AOp}{v:AVal}{H':AHeap}{i b m h:Nat}(hp:∀ rec,z1o E rec t H o=some (v,H'))(hs:(z3u h H' seen).isSome=true) :WD E ds (⟨⟨d,o,none⟩,2,i,b,m,h⟩::ld) t H seen Q↔WD E ds ld (tput t d v) H' (y4h (z3u h H' seen)) Q:=by
 obtain⟨s',hs'⟩:=Option.isSome_iff_exists.1 hs
 rw[hs',z7d]
 refine⟨?_,fun k=>WD.loud (o:=⟨d,o,none⟩) rfl ⟨0,fun _ _=>hp _⟩ hs' k⟩
 rintro⟨t2,H2,⟨n0,k⟩,q⟩
 refine⟨t2,H2,⟨n0,fun n hn=>?_⟩,q⟩
 have:=k n hn
 rw[z3t]at this
 simpa only[z0y,hp,hs',z5h]using this
theorem y9s{n:Nat}{x y:AOpnd}{i b m h:Nat}(h1:(z57 H n (x.ev t) (y.ev t)).isSome=true)(hs:(z3u h (hget (z57 H n (x.ev t) (y.ev t))) seen).isSome=true) :WD E ds (⟨⟨d,.store n x y,none⟩,2,i,b,m,h⟩::ld) t H seen Q↔WD E ds ld (tput t d .undef) (hget (z57 H n (x.ev t) (y.ev t))) (y4h (z3u h (hget (z57 H n (x.ev t) (y.ev t))) seen)) Q:=by
 obtain⟨v,hv⟩:=Option.isSome_iff_exists.1 h1
 rw[hv,j15]at hs ⊢
 exact j98 (fun _=>by simp only[z1o];exact y5o hv) hs
theorem z0j{f:FuncId}{vs:List AVal}{v:AVal}{H':AHeap}(hc:z0f E f vs H v H'){args:List AOpnd}{i b m h:Nat}(ha:evs t args=vs)(hs:(z3u h H' seen).isSome=true) :WD E ds (⟨⟨d,.callF f args,none⟩,2,i,b,m,h⟩::ld) t H seen Q↔WD E ds ld (tput t d v) H' (y4h (z3u h H' seen)) Q:=by
 obtain⟨s',hs'⟩:=Option.isSome_iff_exists.1 hs
 rw[hs',z7d]
 subst ha
 obtain⟨n1,hc⟩:=hc
 refine⟨?_,fun k=>WD.loud (o:=⟨d,.callF f args,none⟩) rfl ⟨n1,fun n hn=>by simp only[z1o];exact hc n hn⟩ hs' k⟩
 rintro⟨t2,H2,⟨n0,k⟩,q⟩
 refine⟨t2,H2,⟨n0+n1,fun n hn=>?_⟩,q⟩
 have:=k n (by omega)
 rw[z3t]at this
 have e:z1o E (ev E n) t H (.callF f args)=some (v,H'):=hc n (by omega)
 simpa only[z0y,e,hs',z5h]using this
theorem j0e{z:List AVal}{n i b m h:Nat}{ps:List (Nat×Nat×AOpnd)}(h1:(z32 z t ps).isSome=true) :WD E ds (⟨⟨d,.buildSlice z n ps,none⟩,1,i,b,m,h⟩::ld) t H seen Q↔WD E ds ld (tput t d (.sl H.nx 0 n n 0)) (H.new (.cells (fVs (z32 z t ps)) false false)).2 seen Q:=by
 obtain⟨v,hv⟩:=Option.isSome_iff_exists.1 h1
 rw[hv]
 exact j6m (by simp only[z01,hv];rfl)
theorem k1q{x:AOpnd}{i b m h:Nat}(h1:(z1w (x.ev t)).isSome=true) :WD E ds (⟨⟨d,.box x,none⟩,1,i,b,m,h⟩::ld) t H seen Q↔WD E ds ld (tput t d (.ptr H.nx 0)) (H.new (.cells (fVs (z1w (x.ev t))) false false)).2 seen Q:=by
 obtain⟨v,hv⟩:=Option.isSome_iff_exists.1 h1
 rw[hv]
 exact j6m (by simp only[z01,hv];rfl)
theorem y9t{z:List AVal}{bytes i b m h:Nat}{x y:AOpnd}{k k':IntKind}{n c:Nat}(hx:x.ev t=.int k (.ofNat n))(hy:y.ev t=.int k' (.ofNat c))(h1:(decide (n<=c/\c*bytes<=140737488355328/\c<=140737488355328))=true) :WD E ds (⟨⟨d,.mkSlice z bytes x y,none⟩,1,i,b,m,h⟩::ld) t H seen Q↔WD E ds ld (tput t d (.sl H.nx 0 n c 0)) (H.new (.cells (repl z c) false false)).2 seen Q:=by
 have h1:=of_decide_eq_true h1
 have e1:z3j (x.ev t)=some n:=by rw[hx];rfl
 have e2:z3j (y.ev t)=some c:=by rw[hy];rfl
 exact j6m (by simp only[z01,e1,e2,z4u h1.1,z4u h1.2.2,(show Nat.ble (Nat.mul c bytes) 140737488355328=true from z4u h1.2.1)];rfl)
theorem k1o{bytes n c:Nat}(h1:n<=c/\c*bytes<=140737488355328/\c<=140737488355328){z:List AVal}{i b m h:Nat}{x y:AOpnd}(hx:x.ev t=.int .i64 (.ofNat n))(hy:y.ev t=.int .i64 (.ofNat c)) :WD E ds (⟨⟨d,.mkSlice z bytes x y,none⟩,1,i,b,m,h⟩::ld) t H seen Q↔WD E ds ld (tput t d (.sl H.nx 0 n c 0)) (H.new (.cells (repl z c) false false)).2 seen Q:=y9t hx hy (decide_eq_true h1)
theorem z16{sz by':Nat}{sv xv v:AVal}{H':AHeap}(h:z09 H sz by' sv xv=some (v,H')){s x:AOpnd}{i b m h':Nat}(hs:s.ev t=sv)(hx:x.ev t=xv)(ha:(z3u h' H' seen).isSome=true) :WD E ds (⟨⟨d,.append sz by' s x,none⟩,2,i,b,m,h'⟩::ld) t H seen Q↔WD E ds ld (tput t d v) H' (y4h (z3u h' H' seen)) Q :=
 j98 (fun _=>by simp only[z1o,z01];rw[hs,hx];exact h) ha
end
section
variable{H:AHeap}{b p:Pos}{x:AObj}{o n:Nat}
theorem z9i{l:List AVal}{op ro:Bool}(h:PT.get b H.t=some (.cells l op ro)) :z04 H b o=lget l o:=by
 unfold z04
 rw[h]
theorem z2x{l:List AVal}{op ro:Bool}(h:PT.get b H.t=some (.cells l op ro)) :z0t H b o n=lsub l o n:=by
 unfold z0t
 rw[h]
theorem hl_g{l:List AVal}{op ro:Bool}(h:PT.get b H.t=some (.cells l op ro)){o:Nat} :z04 H b o=lget l o:=z9i h
theorem hn_g{l:List AVal}{op ro:Bool}(h:PT.get b H.t=some (.cells l op ro)){o n:Nat} :z0t H b o n=lsub l o n:=z2x h
theorem q4k:(H.upd b x).nx=H.nx:=rfl
theorem y7t:(H.new x).2.nx=H.nx.succ:=rfl
theorem z0i:PT.get H.nx (H.new x).2.t=some x:=PT.get_set_same _ _ _
theorem z19(h:b.toNat<H.nx.toNat) :PT.get b (H.new x).2.t=PT.get b H.t:=by
 show PT.get b (PT.set H.nx (some x) H.t)=_
 rw[PT.get_set_other _ _ _ _ (fun e=>by subst e;omega)]
theorem z0q:PT.get b (H.upd b x).t=some x:=PT.get_set_same _ _ _
theorem z8o(h:p.toNat≠b.toNat) :PT.get p (H.upd b x).t=PT.get p H.t:=PT.get_set_other _ _ _ _ (fun e=>h (by rw[e]))
theorem q69{a b:Pos}(h:a.toNat<b.toNat) :a.toNat<b.succ.toNat:=by rw[Pos.toNat_succ];omega
theorem z0h{a:Pos} :a.toNat<a.succ.toNat:=by rw[Pos.toNat_succ];omega
end
section
variable{t a b:PT AVal}{p q:Pos}{v:AVal}{x y:Option AVal}
def oun:Option AVal->AVal
 | some v=>v
 | none=>.undef
theorem q95:oun (some v)=v:=rfl
theorem q96:oun none=.undef:=rfl
theorem q3n:tput t (some p) v=PT.set p (some v) t:=rfl
theorem q3o:tget t p=oun (PT.get p t):=by
 unfold tget oun
 cases PT.get p t<;>rfl
theorem q9e:PT.set p x (.l:PT AVal)=PT.one p x:=by cases p<;>rfl
theorem k0c:(PT.one .h x:PT AVal)=.n .l x .l:=rfl
theorem k0a:(PT.one (.o p) x:PT AVal)=.n (PT.one p x) none .l:=rfl
theorem k0b:(PT.one (.i p) x:PT AVal)=.n .l none (PT.one p x):=rfl
theorem q9g:PT.set .h x (.n a y b)=.n a x b:=rfl
theorem q9d:PT.set (.o p) x (.n a y b)=.n (PT.set p x a) y b:=rfl
theorem q9f:PT.set (.i p) x (.n a y b)=.n a y (PT.set p x b):=rfl
theorem gt_l:PT.get p (.l:PT AVal)=none:=by cases p<;>rfl
theorem gt_h:PT.get .h (.n a y b)=y:=rfl
theorem gt_o:PT.get (.o p) (.n a y b)=PT.get p a:=rfl
theorem gt_i:PT.get (.i p) (.n a y b)=PT.get p b:=rfl
theorem y80:PT.get p (PT.set p x t)=x:=PT.get_set_same _ _ _
theorem k1b(h:Pos.beq q p=false) :PT.get p (PT.set q x t)=PT.get p t:=PT.get_set_other _ _ _ _ (fun e=>by
 subst e
 have:∀ p:Pos,Pos.beq p p=true:=fun p=>by induction p<;>simp_all [Pos.beq]
 rw[this]at h;cases h)
theorem q90:Pos.beq .h (.o p)=false:=rfl
theorem q91:Pos.beq .h (.i p)=false:=rfl
theorem q9w:Pos.beq (.o p) .h=false:=rfl
theorem q9z:Pos.beq (.i p) .h=false:=rfl
theorem q9v:Pos.beq (.o p) (.i q)=false:=rfl
theorem q9x:Pos.beq (.i p) (.o q)=false:=rfl
theorem q9u:Pos.beq (.o p) (.o q)=Pos.beq p q:=rfl
theorem q9y:Pos.beq (.i p) (.i q)=Pos.beq p q:=rfl
theorem q4r{l:List AVal} :lget (v::l) 0=some v:=rfl
theorem q4q{l:List AVal}{n:Nat} :lget (v::l) (n+1)=lget l n:=rfl
theorem y5n{c:Bool} :q5x .undef c=some false:=rfl
theorem y00:z0y t none=some true:=rfl
def q25(ds:List ADef)(Inv:Nat->PT AVal->AHeap->Prop)(Q:z2i)(n:Nat) :z2i:=y2c ds Inv Q n
theorem lp_n{ds ds':List ADef}{Inv:Nat->PT AVal->AHeap->Prop}{Q:z2i}{n:Nat}{H:AHeap} :q25 ds Inv Q n .normal ⟨t,ds'⟩ H=(ds'=ds/\∃ m,m<n/\Inv m t H):=rfl
theorem lp_r{ds:List ADef}{Inv:Nat->PT AVal->AHeap->Prop}{Q:z2i}{n:Nat}{a:AAct}{H:AHeap} :q25 ds Inv Q n .ret a H=Q .ret a H:=rfl
theorem lp_e{ds:List ADef}{Inv:Nat->PT AVal->AHeap->Prop}{Q:z2i}{n i:Nat}{a:AAct}{H:AHeap} :q25 ds Inv Q n (.exit i) a H=Q (.exit i) a H:=rfl
theorem W.loopI{E:Env}{ro:Option Pos}{ds:List ADef}{c:ACode}{Q:z2i}(Inv:Nat->PT AVal->AHeap->Prop)(step:∀ n t H,Inv n t H->WP E ro c ⟨t,ds⟩ H (q25 ds Inv Q n))(n:Nat)(t:PT AVal)(H:AHeap)(h:Inv n t H) :W E (.loop c) ro ⟨t,ds⟩ H Q:=W.loop_inv Inv (fun n t H h=>WP.w (step n t H h)) n t H h
theorem y5q{v:AVal}(h:z1g v=true) :z1w v=some [v]:=z7s h
theorem q3l{l:List AVal} :z1w (.agg l)=some l:=rfl
end
section
variable{H H1:AHeap}{b p:Pos}{x:AObj}{o n:Nat}{op ro:Bool}{l vs:List AVal}
theorem j18(h:b=H.nx) :PT.get b (H.new x).2.t=some x:=by subst h;exact PT.get_set_same _ _ _
theorem k08(h:b=H.nx) :z04 (H.new (.cells l op ro)).2 b o=lget l o:=z9i (j18 h)
theorem q42(h:b.toNat<H.nx.toNat) :z04 (H.new x).2 b o=z04 H b o:=by unfold z04;rw[z19 h]
theorem k07:z04 (H.upd b (.cells l op ro)) b o=lget l o:=z9i z0q
theorem y8x(h:p.toNat≠b.toNat) :z04 (H.upd b x) p o=z04 H p o:=by unfold z04;rw[z8o h]
theorem k06(h:b=H.nx) :z0t (H.new (.cells l op ro)).2 b o n=lsub l o n:=z2x (j18 h)
theorem q41(h:b.toNat<H.nx.toNat) :z0t (H.new x).2 b o n=z0t H b o n:=by unfold z0t;rw[z19 h]
theorem k05:z0t (H.upd b (.cells l op ro)) b o n=lsub l o n:=z2x z0q
theorem q40(h:p.toNat≠b.toNat) :z0t (H.upd b x) p o n=z0t H p o n:=by unfold z0t;rw[z8o h]
theorem set_set{α:Type}(x y:Option α) :∀ (p:Pos) (t:PT α),PT.set p y (PT.set p x t)=PT.set p y t
 | .h,.l=>rfl
 | .o p,.l=>by
  have:∀ (p:Pos),PT.set p y (PT.one p x)=PT.one p y:=fun p=>by
   induction p with
   | h=>rfl
   | o p ih=>simp only[PT.one,PT.set,ih]
   | i p ih=>simp only[PT.one,PT.set,ih]
  simp only[PT.set]
  exact this (.o p)
 | .i p,.l=>by
  have:∀ (p:Pos),PT.set p y (PT.one p x)=PT.one p y:=fun p=>by
   induction p with
   | h=>rfl
   | o p ih=>simp only[PT.one,PT.set,ih]
   | i p ih=>simp only[PT.one,PT.set,ih]
  simp only[PT.set]
  exact this (.i p)
 | .h,.n _ _ _=>rfl
 | .o p,.n a _ _=>by simp only[PT.set,set_set x y p a]
 | .i p,.n _ _ c=>by simp only[PT.set,set_set x y p c]
def stU(H:AHeap)(b:Pos)(o:Nat)(vs:List AVal) :Option AObj->Option AHeap
 | some (.cells l op false)=>match z1l vs with
  | true=>match lput l o vs with
   | some l'=>some (H.upd b (.cells l' op false))
   | none=>none
  | false=>none
 | _=>none
theorem j7z:z05 H b o vs=stU H b o vs (PT.get b H.t):=rfl
def lpo:Option (List AVal)->List AVal
 | some l=>l
 | none=>[]
theorem j7o:lpo (some l)=l:=rfl
theorem y8u(h:b=H.nx)(hs:z1l vs=true)(hl:(lput l o vs).isSome=true) :z05 (H.new (.cells l op false)).2 b o vs=some (H.new (.cells (lpo (lput l o vs)) op false)).2:=by
 obtain⟨l',e⟩:=Option.isSome_iff_exists.1 hl
 rw[j7z,j18 h]
 simp only[stU,hs,e,j7o]
 subst h
 unfold AHeap.upd AHeap.new
 simp only[set_set]
theorem q88(hs:z1l vs=true)(hl:(lput l o vs).isSome=true) :stU H b o vs (some (.cells l op false))=some (H.upd b (.cells (lpo (lput l o vs)) op false)):=by
 obtain⟨l',e⟩:=Option.isSome_iff_exists.1 hl
 simp only[stU,hs,e,j7o]
theorem z0z(h:PT.get b H.t=some (.cells l op false))(hs:z1l vs=true)(hl:(lput l o vs).isSome=true) :z05 H b o vs=some (H.upd b (.cells (lpo (lput l o vs)) op false)):=by rw[j7z,h,q88 hs hl]
theorem q4z(hs:z1l vs=true)(hl:(lput l o vs).isSome=true) :z05 (H.upd b (.cells l op false)) b o vs=some (H.upd b (.cells (lpo (lput l o vs)) op false)):=by
 rw[j7z,z0q,q88 hs hl]
 unfold AHeap.upd
 simp only[set_set]
theorem y8w{m:Nat}(k:Keep n H H1)(h:b.toNat<n) :z0t H1 b o m=z0t H b o m:=by unfold z0t;rw[k.get b h]
theorem y2w{v:AVal}(hs:z1g v=true) :z57 H 1 (.ptr b o) v=z05 H b o [v]:=by
 unfold z57
 simp only[z7s hs]
 rfl
theorem y2x{n:Nat}(hn:vs.length=n) :z57 H n (.ptr b o) (.agg vs)=z05 H b o vs:=by
 unfold z57
 subst hn
 simp only[z1w,j20]
theorem lt_s{a b:Pos}(h:a.toNat<b.toNat) :(a.toNat<b.succ.toNat)=True:=by simp only[q69 h]
theorem lt_z{a:Pos} :(a.toNat<a.succ.toNat)=True:=by simp only[z0h]
theorem z5y{k:IntKind}{n:Int} :z1g (.int k n)=true:=rfl
theorem y2k{c:Bool} :z1g (.bool c)=true:=rfl
theorem z9h{s:List Nat} :z1g (.str s)=true:=rfl
theorem y8k:z1g (.ptr b o)=true:=rfl
theorem y2i:z1g .pnil=true:=rfl
theorem y2h:z1g .snil=true:=rfl
theorem q4y{a c d:Nat} :z1g (.sl b o a c d)=true:=rfl
theorem y8l:z1g (.map b)=true:=rfl
theorem y2j{f:FuncId}{a c:List AVal} :z1g (.func f a c)=true:=rfl
theorem j7s{f:TypeId}{a:AVal} :z1g (.iface f a)=true:=rfl
theorem q5o:z1l []=true:=rfl
theorem z0p{v:AVal}(h:z1g v=true) :z1l (v::l)=z1l l:=by simp only[z1l,h]
theorem q4p:z6q [] l=some l:=by cases l<;>rfl
theorem y8b{v w:AVal} :z6q (v::vs) (w::l)=(z6q vs l).map (v :: ·):=by simp only[z6q];cases z6q vs l<;>rfl
theorem lp_0:lput l 0 vs=z6q vs l:=by cases l<;>rfl
theorem lp_s{v:AVal} :lput (v::l) (n+1) vs=(lput l n vs).map (v :: ·):=by simp only[lput];cases lput l n vs<;>rfl
theorem y2n:(some l).isSome=true:=rfl
theorem y2o:(some H).isSome=true:=rfl
theorem y2m{l:List Seen} :(some l).isSome=true:=rfl
def lsb:Option (List AVal)->Nat->Option (List AVal)
 | some l,n=>z6p n l
 | none,_=>none
def aggO:Option (List AVal)->Option AVal
 | some l=>some (.agg l)
 | none=>none
theorem q4o:lsub l o n=lsb (z9g o l) n:=by unfold lsub lsb;cases z9g o l<;>rfl
theorem lk_0:z6p 0 l=some []:=by cases l<;>rfl
theorem lk_s{v:AVal} :z6p (n+1) (v::l)=(z6p n l).map (v :: ·):=by simp only[z6p];cases z6p n l<;>rfl
theorem ld_0:z9g 0 l=some l:=by cases l<;>rfl
theorem ld_s{v:AVal} :z9g (n+1) (v::l)=z9g n l:=rfl
theorem q5l{a c:List Nat} :z0l .eql (.str a) (.str c)=some (.bool (z14 a c)):=rfl
theorem q5j{a c:List Nat} :z0l .neq (.str a) (.str c)=some (.bool (!(z14 a c))):=rfl
theorem q5k{a c:List Nat} :z0l .leq (.str a) (.str c)=some (.bool (z5a a c || z14 a c)):=rfl
theorem k0p:Nat.add o n=o+n:=rfl
theorem k0l:Nat.mul o n=o*n:=rfl
theorem y2y{m:Nat} :z6v H m (.ptr b o)=aggO (z0t H b o m):=by
 unfold z6v aggO
 simp only
 cases z0t H b o m<;>rfl
theorem q5t:aggO (some l)=some (.agg l):=rfl
theorem ff_p{m:Nat} :z53 o m (.agg l)=aggO (lsub l o m):=by
 unfold z53 aggO
 simp only
 cases lsub l o m<;>rfl
theorem k0z{m:Nat} :lsb (some l) m=z6p m l:=rfl
theorem fb_s:z99 (some l)=some (.agg l):=rfl
def k1d(t:PT AVal)(ps:List (Nat×Nat×AOpnd)) :Option (List AVal)->Option (List AVal)
 | some z=>z32 z t ps
 | none=>none
theorem fo_s{z:List AVal}{t:PT AVal}{ps:List (Nat×Nat×AOpnd)} :k1d t ps (some z)=z32 z t ps:=rfl
def putV(z:List AVal)(o n:Nat)(v:AVal) :Option (List AVal):=match z1w v with
 | some vs=>match Nat.beq vs.length n with
  | true=>lput z o vs
  | false=>none
 | none=>none
theorem fi_c{z:List AVal}{t:PT AVal}{ps:List (Nat×Nat×AOpnd)}{y:AOpnd} :z32 z t ((o,n,y)::ps)=k1d t ps (putV z o n (y.ev t)):=by
 simp only[z32,putV]
 cases z1w (y.ev t)with
 | none=>rfl
 | some vs =>
  simp only
  cases Nat.beq vs.length n with
  | false=>rfl
  | true=>simp only;cases lput z o vs<;>rfl
theorem pv_a{z:List AVal}(h:vs.length=n) :putV z o n (.agg vs)=lput z o vs:=by
 subst h
 simp only[putV,z1w,j20]
theorem pv_s{z:List AVal}{v:AVal}(h:z1g v=true) :putV z o 1 v=lput z o [v]:=by
 simp only[putV,z7s h]
 rfl
theorem ll_n:([] :List AVal).length=0:=rfl
theorem ll_c{v:AVal} :(v::l).length=l.length+1:=rfl
theorem q49{z:List AVal}{t:PT AVal} :z32 z t []=some z:=rfl
end
section
variable{H:AHeap}{k:IntKind}{i j:Nat}
theorem j10(k:IntKind) :kbeq k k=true:=by cases k<;>rfl
theorem bk(op:BinOp)(a b:Int)(h:op≠.shl)(h':op≠.shr) :z0l op (.int k a) (.int k b)=z6s op k a b:=by
 cases op<;>first | exact absurd rfl h | exact absurd rfl h' | (simp only[z0l,j10])
theorem k0s:z0l .lss (.int k (.ofNat i)) (.int k (.ofNat j))=some (.bool (decide (i<j))):=by rw[bk _ _ _ (by simp) (by simp)];show some (AVal.bool (Nat.blt i j))=_;rw[z9s]
theorem k0u:z0l .gtr (.int k (.ofNat i)) (.int k (.ofNat j))=some (.bool (decide (j<i))):=by rw[bk _ _ _ (by simp) (by simp)];show some (AVal.bool (Nat.blt j i))=_;rw[z9s]
theorem k0t:z0l .leq (.int k (.ofNat i)) (.int k (.ofNat j))=some (.bool (decide (i<=j))):=by
 rw[bk _ _ _ (by simp) (by simp)];show some (AVal.bool (!(Nat.blt j i)))=_;rw[z9s]
 by_cases h:i<=j<;>simp[h]
 omega
theorem k0v:z0l .geq (.int k (.ofNat i)) (.int k (.ofNat j))=some (.bool (decide (j<=i))):=by
 rw[bk _ _ _ (by simp) (by simp)];show some (AVal.bool (!(Nat.blt i j)))=_;rw[z9s]
 by_cases h:j<=i<;>simp[h]
 omega
theorem k0w:z0l .eql (.int k (.ofNat i)) (.int k (.ofNat j))=some (.bool (decide (i=j))):=by rw[bk _ _ _ (by simp) (by simp)];show some (AVal.bool (eqI _ _))=_;rw[j2h];simp only[Int.ofNat.injEq]
theorem k0q:z0l .neq (.int k (.ofNat i)) (.int k (.ofNat j))=some (.bool (!decide (i=j))):=by rw[bk _ _ _ (by simp) (by simp)];show some (AVal.bool (!eqI _ _))=_;rw[j2h];simp only[Int.ofNat.injEq]
theorem m32:z0l .mul (.int .u32 (.ofNat i)) (.int .u32 (.ofNat j))=some (.int .u32 (.ofNat (Nat.mod (i*j) 4294967296))):=rfl
theorem s32(h:j<=i) :z0l .sub (.int .u32 (.ofNat i)) (.int .u32 (.ofNat j))=some (.int .u32 (.ofNat (Nat.mod (i-j) 4294967296))):=by
 rw[bk _ _ _ (by simp) (by simp)]
 show some (AVal.int .u32 (z1n .u32 (match Nat.ble j i with | true=>.ofNat (i-j) | false=>.negSucc (Nat.pred (j-i)))))=_
 rw[show Nat.ble j i=true from Nat.ble_eq_true_of_le h]
 rfl
theorem x32:z0l .xor (.int .u32 (.ofNat i)) (.int .u32 (.ofNat j))=some (.int .u32 (.ofNat (Nat.mod (Nat.mod (Nat.xor i j) 4294967296) 4294967296))):=rfl
theorem x8:z0l .xor (.int .u8 (.ofNat i)) (.int .u8 (.ofNat j))=some (.int .u8 (.ofNat (Nat.mod (Nat.mod (Nat.xor i j) 256) 256))):=rfl
theorem a8:z0l .and (.int .u8 (.ofNat i)) (.int .u8 (.ofNat j))=some (.int .u8 (.ofNat (Nat.mod (Nat.mod (Nat.land i j) 256) 256))):=rfl
theorem w8:z1n .u8 (.ofNat i)=.ofNat (i%256):=rfl
theorem w32:z1n .u32 (.ofNat i)=.ofNat (i%4294967296):=rfl
theorem w64(h:i<=9223372036854775807) :z1n .i64 (.ofNat i)=.ofNat i:=z64 h
theorem fl_0{s:List Nat} :fLen H 0 (.str s)=some (.int .i64 (.ofNat s.length)):=rfl
theorem fl_1{b:Pos}{o n c z:Nat} :fLen H 1 (.sl b o n c z)=some (.int .i64 (.ofNat n)):=rfl
theorem fl_n:fLen H 1 .snil=some (.int .i64 (.ofNat 0)):=rfl
theorem y8s{s:List Nat}(h:i<s.length) :z6w (.str s) (.int k (.ofNat i))=some (.int .u8 (.ofNat (s[i]'h))):=by
 show(match s.drop i with | c::_=>_ | []=>_)=_
 rw[List.drop_eq_getElem_cons h]
end
section
variable{H:AHeap}{b:Pos}{o n c z:Nat}{l m:List AVal}
theorem pbs:∀ p:Pos,Pos.beq p p=true:=fun p=>by induction p<;>simp_all [Pos.beq]
theorem y05{k:IntKind}{x:Int} :same (.int k x) (.int k x)=true:=by
 simp only[same,j10,j2h,decide_true]
theorem y6a{x:Bool} :same (.bool x) (.bool x)=true:=by cases x<;>rfl
theorem j4q:∀ s:List Nat,z14 s s=true
 | []=>rfl
 | a::l=>by simp only[z14,j20,j4q l]
theorem q3y{x:List Nat} :same (.str x) (.str x)=true:=by simp only[same,j4q]
theorem q3z:same (.ptr b o) (.ptr b o)=true:=by simp only[same,pbs,j20,Bool.and_self]
theorem q56:same (.sl b o n c z) (.sl b o n c z)=true:=by simp only[same,pbs,j20,Bool.and_self]
theorem q31:same (.map b) (.map b)=true:=by simp only[same,pbs]
theorem y58:same .pnil .pnil=true:=rfl
theorem y57:same .snil .snil=true:=rfl
theorem y04:same .undef .undef=true:=rfl
theorem q32:same (.agg l) (.agg m)=z59 l m:=rfl
theorem q3x:same (.tup l) (.tup m)=z59 l m:=rfl
theorem q30:z59 [] []=true:=rfl
theorem y59{v w:AVal} :z59 (v::l) (w::m)=(same v w && z59 l m):=rfl
end
def ra2:Option AVal->Option (List AVal)->Option (List AVal)
 | some v,some r=>some (v::r)
 | _,_=>none
theorem q9l{v:AVal}{r:List AVal} :ra2 (some v) (some r)=some (v::r):=rfl
theorem ra_m{t:PT AVal}{H:AHeap}{p:Pos}{n:Nat}{rs:List (Pos×Option Nat)} :z0u t H ((p,some (n+1))::rs)=ra2 (z6v H (n+1) (tget t p)) (z0u t H rs):=by
 simp only[z0u,z6v]
 cases tget t p with
 | ptr b o=>simp only;cases z0t H b o (n+1)<;>cases z0u t H rs<;>rfl
 | _=>rfl
theorem ra_z{t:PT AVal}{H:AHeap}{p:Pos}{rs:List (Pos×Option Nat)} :z0u t H ((p,some 0)::rs)=ra2 (z7l H (tget t p)) (z0u t H rs):=by
 simp only[z0u,z7l]
 cases tget t p with
 | ptr b o=>simp only;cases z04 H b o<;>cases z0u t H rs<;>rfl
 | _=>rfl
set_option maxRecDepth 100000 in
theorem auX:type_of% (And.intro @q29 (And.intro @j23 (And.intro @j24 (And.intro @y5e (And.intro @y5d (And.intro @y0q (And.intro @y0p (And.intro @j01 (And.intro @q3e (And.intro @q8l (And.intro @q8j (And.intro @y0m (And.intro @j02 (And.intro @y5b (And.intro @z9v (And.intro @y5f (And.intro @y5g (And.intro @j6l (And.intro @j6k (And.intro @j6j (And.intro @y0n (And.intro @y5c (And.intro @q3a (And.intro @q3b (And.intro @j6i (And.intro @j25 (And.intro @q3c (And.intro @q8k (And.intro @y0r (And.intro @y0s (And.intro @y0o (And.intro @q3f (And.intro @j26 (And.intro @j27 (And.intro @y5k (And.intro @y5j (And.intro @y0x (And.intro @y0w (And.intro @j03 (And.intro @q3j (And.intro @q8v (And.intro @q8t (And.intro @y0t (And.intro @j04 (And.intro @y5h (And.intro @z9w (And.intro @y5l (And.intro @y5m (And.intro @j6q (And.intro @j6p (And.intro @j6o (And.intro @y0u (And.intro @y5i (And.intro @q3g (And.intro @q3h (And.intro @j6n (And.intro @j28 (And.intro @q3i (And.intro @q8u (And.intro @y0y (And.intro @y0z (And.intro @y0v (And.intro @j6r (And.intro @j29 (And.intro @Int.ofNat.injEq (And.intro @z5f (And.intro @j7t (And.intro @y1k (And.intro @y1l (And.intro @y6z (And.intro @y6x (And.intro @y6y (And.intro @y6w (And.intro @q9m (And.intro @y6v (And.intro @q37 (And.intro @y60 (And.intro @q9n (And.intro @y1m (And.intro @r_mm (And.intro @q38 (And.intro @q39 (And.intro @Bool.not_true (And.intro @Bool.not_false (And.intro @Bool.true_eq_false (And.intro @Bool.false_eq_true (And.intro @Bool.true_beq (And.intro @Bool.false_beq (And.intro @y47 (And.intro @q28 (And.intro @y49 (And.intro @j6f (And.intro @y5a (And.intro @q27 (And.intro @y0k (And.intro @y48 (And.intro @j6g (And.intro @j6h (And.intro @y8f (And.intro @q4t (And.intro @q4s (And.intro @q4u (And.intro @q4w (And.intro @q4v (And.intro @q4x (And.intro @j7f (And.intro @z91 (And.intro @q36 (And.intro @y6u (And.intro @y7s (And.intro @rv_1 (And.intro @rv_2 (And.intro @rv_0 (And.intro @y8d (And.intro @y2f (And.intro @ps_h (And.intro @ps_o (And.intro @ps_i (And.intro @j15 (And.intro @y7j (And.intro @y2v (And.intro @z93 (And.intro @q94 (And.intro @j3p (And.intro @z7d (And.intro @q5u (And.intro @q0e (And.intro @q0f (And.intro @y7l (And.intro @y9s (And.intro @ev_t (And.intro @ev_c (And.intro @y9f (And.intro @y20 (And.intro @z6f (And.intro @q95 (And.intro @q96 (And.intro @q3n (And.intro @q3o (And.intro @q9e (And.intro @k0c (And.intro @k0a (And.intro @k0b (And.intro @q9g (And.intro @q9d (And.intro @q9f (And.intro @gt_l (And.intro @gt_h (And.intro @gt_o (And.intro @gt_i (And.intro @y80 (And.intro @k1b (And.intro @q90 (And.intro @q91 (And.intro @q9w (And.intro @q9z (And.intro @q9v (And.intro @q9x (And.intro @q9u (And.intro @q9y (And.intro @q4r (And.intro @q4q (And.intro @y5n (And.intro @y00 (And.intro @lp_n (And.intro @lp_r (And.intro @lp_e (And.intro @q4k (And.intro @y7t (And.intro @z19 (And.intro @z0q (And.intro @z8o (And.intro @j18 (And.intro @k08 (And.intro @q42 (And.intro @k07 (And.intro @y8x (And.intro @k06 (And.intro @q41 (And.intro @k05 (And.intro @q40 (And.intro @j7o (And.intro @y8u (And.intro @q4z (And.intro @y2w (And.intro @y2x (And.intro @lt_s (And.intro @lt_z (And.intro @z5y (And.intro @y2k (And.intro @z9h (And.intro @y8k (And.intro @y2i (And.intro @y2h (And.intro @q4y (And.intro @y8l (And.intro @y2j (And.intro @j7s (And.intro @q5o (And.intro @z0p (And.intro @q4p (And.intro @y8b (And.intro @lp_0 (And.intro @lp_s (And.intro @y2n (And.intro @y2o (And.intro @y2m (And.intro @q4o (And.intro @lk_0 (And.intro @lk_s (And.intro @ld_0 (And.intro @ld_s (And.intro @q5l (And.intro @q5j (And.intro @k0p (And.intro @k0l (And.intro @y2y (And.intro @q5t (And.intro @ff_p (And.intro @k0z (And.intro @fb_s (And.intro @q49 (And.intro @y5q (And.intro @q3l (And.intro @decide_true (And.intro @decide_false (And.intro @and_self (And.intro @true_and (And.intro @and_true (And.intro @fo_s (And.intro @k0s (And.intro @k0u (And.intro @k0t (And.intro @k0v (And.intro @k0w (And.intro @k0q (And.intro @m32 (And.intro @x32 (And.intro @x8 (And.intro @a8 (And.intro @w8 (And.intro @w32 (And.intro @fl_0 (And.intro @fl_1 (And.intro @fl_n (And.intro @q5k (And.intro @fi_c (And.intro @pv_a (And.intro @pv_s (And.intro @ll_n (And.intro @ll_c (And.intro @y05 (And.intro @y6a (And.intro @q3y (And.intro @q3z (And.intro @q56 (And.intro @q31 (And.intro @y58 (And.intro @y57 (And.intro @y04 (And.intro @q32 (And.intro @q3x (And.intro @q30 (And.intro @y59 (And.intro @Bool.and_self (And.intro @y1r (And.intro @y1q (And.intro @j40 (And.intro @j4z (And.intro @z7a (And.intro @q02 (And.intro @q_eq (And.intro @q_un (And.intro @j4x (And.intro @z7b (And.intro @y1o (And.intro @z5r (And.intro @y1s (And.intro @y1t (And.intro @j0r (And.intro @j0q (And.intro @j0p (And.intro @j4y (And.intro @y1p (And.intro @q0z (And.intro @q00 (And.intro @j0o (And.intro @z8e (And.intro @q01 (And.intro @q_mm (And.intro @j41 (And.intro @j0e (And.intro @k1q (And.intro @q9l (And.intro @ra_m (@ra_z)))))))))))))))))))))))))))))))))))))))))))))))))))))))))))))))))))))))))))))))))))))))))))))))))))))))))))))))))))))))))))))))))))))))))))))))))))))))))))))))))))))))))))))))))))))))))))))))))))))))))))))))))))))))))))))))))))))))))))))))))))))))))))))))))))))))))))))))))))))))))))))))))))))))):=And.intro @q29 (And.intro @j23 (And.intro @j24 (And.intro @y5e (And.intro @y5d (And.intro @y0q (And.intro @y0p (And.intro @j01 (And.intro @q3e (And.intro @q8l (And.intro @q8j (And.intro @y0m (And.intro @j02 (And.intro @y5b (And.intro @z9v (And.intro @y5f (And.intro @y5g (And.intro @j6l (And.intro @j6k (And.intro @j6j (And.intro @y0n (And.intro @y5c (And.intro @q3a (And.intro @q3b (And.intro @j6i (And.intro @j25 (And.intro @q3c (And.intro @q8k (And.intro @y0r (And.intro @y0s (And.intro @y0o (And.intro @q3f (And.intro @j26 (And.intro @j27 (And.intro @y5k (And.intro @y5j (And.intro @y0x (And.intro @y0w (And.intro @j03 (And.intro @q3j (And.intro @q8v (And.intro @q8t (And.intro @y0t (And.intro @j04 (And.intro @y5h (And.intro @z9w (And.intro @y5l (And.intro @y5m (And.intro @j6q (And.intro @j6p (And.intro @j6o (And.intro @y0u (And.intro @y5i (And.intro @q3g (And.intro @q3h (And.intro @j6n (And.intro @j28 (And.intro @q3i (And.intro @q8u (And.intro @y0y (And.intro @y0z (And.intro @y0v (And.intro @j6r (And.intro @j29 (And.intro @Int.ofNat.injEq (And.intro @z5f (And.intro @j7t (And.intro @y1k (And.intro @y1l (And.intro @y6z (And.intro @y6x (And.intro @y6y (And.intro @y6w (And.intro @q9m (And.intro @y6v (And.intro @q37 (And.intro @y60 (And.intro @q9n (And.intro @y1m (And.intro @r_mm (And.intro @q38 (And.intro @q39 (And.intro @Bool.not_true (And.intro @Bool.not_false (And.intro @Bool.true_eq_false (And.intro @Bool.false_eq_true (And.intro @Bool.true_beq (And.intro @Bool.false_beq (And.intro @y47 (And.intro @q28 (And.intro @y49 (And.intro @j6f (And.intro @y5a (And.intro @q27 (And.intro @y0k (And.intro @y48 (And.intro @j6g (And.intro @j6h (And.intro @y8f (And.intro @q4t (And.intro @q4s (And.intro @q4u (And.intro @q4w (And.intro @q4v (And.intro @q4x (And.intro @j7f (And.intro @z91 (And.intro @q36 (And.intro @y6u (And.intro @y7s (And.intro @rv_1 (And.intro @rv_2 (And.intro @rv_0 (And.intro @y8d (And.intro @y2f (And.intro @ps_h (And.intro @ps_o (And.intro @ps_i (And.intro @j15 (And.intro @y7j (And.intro @y2v (And.intro @z93 (And.intro @q94 (And.intro @j3p (And.intro @z7d (And.intro @q5u (And.intro @q0e (And.intro @q0f (And.intro @y7l (And.intro @y9s (And.intro @ev_t (And.intro @ev_c (And.intro @y9f (And.intro @y20 (And.intro @z6f (And.intro @q95 (And.intro @q96 (And.intro @q3n (And.intro @q3o (And.intro @q9e (And.intro @k0c (And.intro @k0a (And.intro @k0b (And.intro @q9g (And.intro @q9d (And.intro @q9f (And.intro @gt_l (And.intro @gt_h (And.intro @gt_o (And.intro @gt_i (And.intro @y80 (And.intro @k1b (And.intro @q90 (And.intro @q91 (And.intro @q9w (And.intro @q9z (And.intro @q9v (And.intro @q9x (And.intro @q9u (And.intro @q9y (And.intro @q4r (And.intro @q4q (And.intro @y5n (And.intro @y00 (And.intro @lp_n (And.intro @lp_r (And.intro @lp_e (And.intro @q4k (And.intro @y7t (And.intro @z19 (And.intro @z0q (And.intro @z8o (And.intro @j18 (And.intro @k08 (And.intro @q42 (And.intro @k07 (And.intro @y8x (And.intro @k06 (And.intro @q41 (And.intro @k05 (And.intro @q40 (And.intro @j7o (And.intro @y8u (And.intro @q4z (And.intro @y2w (And.intro @y2x (And.intro @lt_s (And.intro @lt_z (And.intro @z5y (And.intro @y2k (And.intro @z9h (And.intro @y8k (And.intro @y2i (And.intro @y2h (And.intro @q4y (And.intro @y8l (And.intro @y2j (And.intro @j7s (And.intro @q5o (And.intro @z0p (And.intro @q4p (And.intro @y8b (And.intro @lp_0 (And.intro @lp_s (And.intro @y2n (And.intro @y2o (And.intro @y2m (And.intro @q4o (And.intro @lk_0 (And.intro @lk_s (And.intro @ld_0 (And.intro @ld_s (And.intro @q5l (And.intro @q5j (And.intro @k0p (And.intro @k0l (And.intro @y2y (And.intro @q5t (And.intro @ff_p (And.intro @k0z (And.intro @fb_s (And.intro @q49 (And.intro @y5q (And.intro @q3l (And.intro @decide_true (And.intro @decide_false (And.intro @and_self (And.intro @true_and (And.intro @and_true (And.intro @fo_s (And.intro @k0s (And.intro @k0u (And.intro @k0t (And.intro @k0v (And.intro @k0w (And.intro @k0q (And.intro @m32 (And.intro @x32 (And.intro @x8 (And.intro @a8 (And.intro @w8 (And.intro @w32 (And.intro @fl_0 (And.intro @fl_1 (And.intro @fl_n (And.intro @q5k (And.intro @fi_c (And.intro @pv_a (And.intro @pv_s (And.intro @ll_n (And.intro @ll_c (And.intro @y05 (And.intro @y6a (And.intro @q3y (And.intro @q3z (And.intro @q56 (And.intro @q31 (And.intro @y58 (And.intro @y57 (And.intro @y04 (And.intro @q32 (And.intro @q3x (And.intro @q30 (And.intro @y59 (And.intro @Bool.and_self (And.intro @y1r (And.intro @y1q (And.intro @j40 (And.intro @j4z (And.intro @z7a (And.intro @q02 (And.intro @q_eq (And.intro @q_un (And.intro @j4x (And.intro @z7b (And.intro @y1o (And.intro @z5r (And.intro @y1s (And.intro @y1t (And.intro @j0r (And.intro @j0q (And.intro @j0p (And.intro @j4y (And.intro @y1p (And.intro @q0z (And.intro @q00 (And.intro @j0o (And.intro @z8e (And.intro @q01 (And.intro @q_mm (And.intro @j41 (And.intro @j0e (And.intro @k1q (And.intro @q9l (And.intro @ra_m (@ra_z)))))))))))))))))))))))))))))))))))))))))))))))))))))))))))))))))))))))))))))))))))))))))))))))))))))))))))))))))))))))))))))))))))))))))))))))))))))))))))))))))))))))))))))))))))))))))))))))))))))))))))))))))))))))))))))))))))))))))))))))))))))))))))))))))))))))))))))))))))))))))))))))))))))))
structure Step (N:Nat) (S:Pos->Prop) (H:AHeap) (S':Pos->Prop) (H':AHeap) :Prop where
 nx:H.nx.toNat<=H'.nx.toNat
 get:∀ p:Pos,p.toNat<N->¬ S p->PT.get p H'.t=PT.get p H.t
 sub:∀ p,S' p->S p\/N<=p.toNat
 top:∀ p,S' p->p.toNat<H'.nx.toNat
theorem Step.trans{N:Nat}{S S1 S2:Pos->Prop}{H H1 H2:AHeap}(h:Step N S H S1 H1)(k:Step N S1 H1 S2 H2) :Step N S H S2 H2:=by
 refine⟨Nat.le_trans h.nx k.nx,fun p hp hs=>?_,fun p hp=>?_,k.top⟩
 .rw[k.get p hp (fun h1=>by rcases h.sub p h1 with h2 | h2;exact hs h2;omega),h.get p hp hs]
 .rcases k.sub p hp with h1 | h1
  .exact h.sub p h1
  .exact .inr h1
theorem Step.mono{N M:Nat}{S S':Pos->Prop}{H H':AHeap}(h:Step N S H S' H')(hm:M<=N) :Step M S H S' H':=⟨h.nx,fun p hp=>h.get p (by omega),fun p hp=>(h.sub p hp).imp id (Nat.le_trans hm),h.top⟩
theorem Step.keep{N M:Nat}{S S':Pos->Prop}{H H':AHeap}(h:Step N S H S' H')(hM:∀ p,S p->M<=p.toNat)(hn:M<=N) :Keep M H H' :=
 ⟨h.nx,fun p hp=>h.get p (by omega) (fun hs=>by have:=hM p hs;omega)⟩
theorem Keep.step{N:Nat}{S:Pos->Prop}{H H':AHeap}(h:Keep N H H')(hs:∀ p,S p->p.toNat<H.nx.toNat) :Step N S H S H' :=
 ⟨h.nx,fun p hp _=>h.get p hp,fun _ h=>.inl h,fun p hp=>Nat.lt_of_lt_of_le (hs p hp) h.nx⟩
abbrev Dis(S T:Pos->Prop) :Prop:=∀ p,S p->¬ T p
theorem Step.dis{N:Nat}{S S' T:Pos->Prop}{H H':AHeap}(h:Step N S H S' H')(d:Dis S T)(ht:∀ p,T p->p.toNat<N) :Dis S' T:=fun p hp hT=>by
 rcases h.sub p hp with h1 | h1
 .exact d p h1 hT
 .have:=ht p hT;omega
theorem Step.other{N:Nat}{S S' T:Pos->Prop}{H H':AHeap}(h:Step N S H S' H')(d:Dis S T)(ht:∀ p,T p->p.toNat<N)(p:Pos)(hp:T p) :PT.get p H'.t=PT.get p H.t:=h.get p (ht p hp) (fun hs=>d p hs hp)
def blk(v:AVal)(p:Pos) :Prop:=match v with
 | .sl b _ _ _ _=>p=b
 | _=>False
theorem z4s.blk{n:Nat}{H:AHeap}{v:AVal}{l:List AVal}(h:z4s n H v l)(p:Pos)(hp:blk v p) :p.toNat<n:=by
 rcases h with⟨rfl,_⟩ | ⟨b,o,cap,sz,rfl,_,hb,_⟩
 .cases hp
 .cases hp;exact hb
theorem z4s.other{n m:Nat}{H H':AHeap}{v:AVal}{l:List AVal}(h:z4s n H v l)(hg:∀ p,Go.Am.blk v p->PT.get p H'.t=PT.get p H.t)(hm:n<=m) :z4s m H' v l:=by
 rcases h with h | ⟨b,o,cap,sz,rfl,h,hb,hc⟩
 .exact .inl h
 .refine .inr ⟨b,o,cap,sz,rfl,?_,by omega,hc⟩
  unfold z0t at h ⊢
  rw[hg b rfl]
  exact h
end Go.Am
