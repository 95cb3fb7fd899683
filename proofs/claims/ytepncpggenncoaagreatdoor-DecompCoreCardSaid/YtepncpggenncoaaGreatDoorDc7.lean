import Derived.Test.YtepncpggenncoaaGreatDoorDc6
import Derived.Test.YtepncpggenncoaaGreatDoorDc5
set_option linter.all false
set_option maxRecDepth 20000
set_option maxHeartbeats 8000000
namespace Go.Am
open Go Go.Proofs
def Tab(H:AHeap) :Prop:=(∃ op ro,PT.get (Pos.ofNat 4) H.t=some (.cells tabC op ro))/\(Pos.ofNat 4).toNat<H.nx.toNat
theorem Tab.keep{m:Nat}{H H':AHeap}(h:Tab H)(k:Keep m H H')(hm:H.nx.toNat<=m) :Tab H':=by
 obtain⟨⟨op,ro,h1⟩,h2⟩:=h
 exact⟨⟨op,ro,by rw[k.get _ (by omega)];exact h1⟩,Nat.lt_of_lt_of_le h2 k.nx⟩
theorem j77{H:AHeap} :∀ {us vs:List Nat},us.length=vs.length->eqL H (us.map fun _=>EqK.int) (z0b us) (z0b vs)=some (decide (us=vs))
 | [],[],_=>rfl
 | [],_::_,h=>by simp at h
 | _::_,[],h=>by simp at h
 | a::us,b::vs,h=>by
  have ih:=j77 (H:=H) (us:=us) (vs:=vs) (by simpa using h)
  simp only[z0b,List.map_cons,eqL,eqS,j10,j2h]
  by_cases hab:a=b
  .subst hab
   simp only[decide_true,ih]
   simp
  .have:¬ (Int.ofNat a=Int.ofNat b):=fun e=>hab (Int.ofNat.inj e)
   simp only[this,decide_false]
   simp[hab]
section
variable{E:Env}{ds:List ADef}{d:Option Pos}{t:PT AVal}{H:AHeap}{l:List AOper}{ld:List ADraw}{Q:PT AVal->AHeap->Prop}{seen:List Seen}
theorem q3k{sz:Nat}{x y:AOpnd}{b:Pos}{o len cap z n:Nat}{sv:AVal}{c:List AVal}{H':AHeap}(hx:x.ev t=.sl b o len cap z)(hy:y.ev t=sv)(hl:lenA sv=some n)(hf:z31 H sz (Nat.min n len) sv=some c)(hs:z05 H b o c=some H') :z01 t H (.copy sz x y)=some (.int .i64 (.ofNat (Nat.min n len)),H'):=by
 simp only[z01,hx,hy,hl,hf,hs]
theorem q4h{sz:Nat}{b:Pos}{o len cap z n:Nat}{sv:AVal}{c:List AVal}{H':AHeap}(hl:lenA sv=some n)(hf:z31 H sz (Nat.min n len) sv=some c)(hs:z05 H b o c=some H'){x y:AOpnd}(hx:x.ev t=.sl b o len cap z)(hy:y.ev t=sv) :WO E ds (⟨d,.copy sz x y,none⟩::l) t H Q↔WO E ds l (tput t d (.int .i64 (.ofNat (Nat.min n len)))) H' Q:=z3w rfl (fun _=>rfl) (q3k hx hy hl hf hs)
theorem k1p{sz:Nat}{b:Pos}{o len cap z n:Nat}{sv:AVal}{c:List AVal}{H':AHeap}(hl:lenA sv=some n)(hf:z31 H sz (Nat.min n len) sv=some c)(hs:z05 H b o c=some H'){x y:AOpnd}{i b' m h:Nat}(hx:x.ev t=.sl b o len cap z)(hy:y.ev t=sv)(ha:(z3u h H' seen).isSome=true) :WD E ds (⟨⟨d,.copy sz x y,none⟩,2,i,b',m,h⟩::ld) t H seen Q↔WD E ds ld (tput t d (.int .i64 (.ofNat (Nat.min n len)))) H' (y4h (z3u h H' seen)) Q :=
 j98 (fun _=>by simp only[z1o];exact q3k hx hy hl hf hs) ha
end
theorem q6b{b:Pos}{n k:Nat}(h:k<=n)(h0:0<n){t:PT AVal}{y:AOpnd}(hy:y.ev t=.int .i64 (.ofNat k)) :z0w t (.arr n 1) (.ptr b 0) none (some y) none=some (.sl b 0 k n 0):=by
 simp only[z0w,bo_s hy h,bo_n,j0k (show n≠0 by omega)]
 rfl
theorem q6a{b:Pos}{n k:Nat}(h:k<n){t:PT AVal}{y:AOpnd}(hy:y.ev t=.int .i64 (.ofNat k)) :z0w t (.arr n 1) (.ptr b 0) (some y) none none=some (.sl b k (n-k) (n-k) 0):=by
 simp only[z0w,bo_s hy (Nat.le_of_lt h),bo_n,j0k (show n≠k by omega),nadd,nsub,nmul,Nat.mul_one,zA]
theorem q59{b:Pos}{n:Nat}(h0:0<n){t:PT AVal} :z0w t (.arr n 1) (.ptr b 0) none none none=some (.sl b 0 n n 0):=by
 simp only[z0w,bo_n,j0k (show n≠0 by omega)]
 rfl
theorem shl8{a:Nat}(h:a<=1000000) :z0l .shl (.int .i64 (.ofNat a)) (.int .u64 (.ofNat 8))=some (.int .i64 (.ofNat (a*256))):=by
 show some (AVal.int .i64 (z1n .i64 (.ofNat (a*256))))=_
 rw[z64 (by omega)]
section
variable{E:Env}(C:CkS E)
include C
theorem q8y{H:AHeap}(ht:Tab H){v:AVal}{us:List Nat}(h:By H v us)(hl:us.length<=1000000000) :z0f E 263 [v] H (.int .u32 (.ofNat (z2m us))) H:=by
 obtain⟨op,ro,hg⟩:=ht.1
 have c:=z0f.sum C.s323 (q6e hg h.1.reads h.2 (by omega) (c:=0) (by omega))
 refine C.c263.re (by conv=>lhs;reduce) ?_
 simp(maxDischargeDepth:=9)only[auX,z0c c]
theorem q46{H:AHeap}(ht:Tab H){v:AVal}{us:List Nat}(h:By H v us)(hl:us.length<=1000000000) :z0f E 198 [v] H (.agg (z0b (b4 (z2m us)))) (H.new (.cells (z0b (b4 (z2m us))) false false)).2:=by
 have k0:Keep H.nx.toNat H (H.new (.cells [.int .u8 (.ofNat 0),.int .u8 (.ofNat 0),.int .u8 (.ofNat 0),.int .u8 (.ofNat 0)] false false)).2:=z0d
 have c:=q8y C (ht.keep k0 lr) (h.keep k0 lr) hl
 refine C.c198.re (by conv=>lhs;reduce) ?_
 simp(maxDischargeDepth:=9)only[auX,Nat.reduceAdd,zA,z0c c,shs,z0b,b4]
theorem k02{H:AHeap}(k:Nat) :z0f E 196 [.int .i64 (.ofNat k)] H (.bool (decide (z34 k))) H:=by
 refine C.c196.re (by conv=>lhs;reduce) ?_
 by_cases h1:k=1
 .subst h1;simp(maxDischargeDepth:=9)only[auX];rfl
 by_cases h2:k=2
 .subst h2;simp(maxDischargeDepth:=9)only[auX,bq,h1];rfl
 by_cases h3:k=3
 .subst h3;simp(maxDischargeDepth:=9)only[auX,bq,Nat.reduceEqDiff,h1];rfl
 .have:decide (z34 k)=false:=by simp[z34,h1,h2,h3]
  rw[this]
  simp(maxDischargeDepth:=9)only[auX,bq,h1,h2,h3]
theorem q10{H:AHeap}(ht:Tab H){k n:Nat}(hk:z34 k)(hn:n<=1024) :∃ H',z0f E 197 [.int .i64 (.ofNat k),.int .i64 (.ofNat n)] H (.agg (z0b (hd4 k n++b4 (z2m (hd4 k n))))) H'/\Keep H.nx.toNat H H':=by
 have ks:k%256=k:=by rcases hk with rfl | rfl | rfl<;>rfl
 have n1:n/256%256=n/256:=by omega
 have kA:Keep H.nx.toNat H (H.new (.cells [.int .u8 (.ofNat 0),.int .u8 (.ofNat 0),.int .u8 (.ofNat 0),.int .u8 (.ofNat 0),.int .u8 (.ofNat 0),.int .u8 (.ofNat 0),.int .u8 (.ofNat 0),.int .u8 (.ofNat 0)] false false)).2:=z0d
 have gA:PT.get H.nx (H.new (.cells [.int .u8 (.ofNat 0),.int .u8 (.ofNat 0),.int .u8 (.ofNat 0),.int .u8 (.ofNat 0),.int .u8 (.ofNat 0),.int .u8 (.ofNat 0),.int .u8 (.ofNat 0),.int .u8 (.ofNat 0)] false false)).2.t=some (.cells [.int .u8 (.ofNat 0),.int .u8 (.ofNat 0),.int .u8 (.ofNat 0),.int .u8 (.ofNat 0),.int .u8 (.ofNat 0),.int .u8 (.ofNat 0),.int .u8 (.ofNat 0),.int .u8 (.ofNat 0)] false false):=z0i
 have lA:H.nx.toNat<(H.new (.cells [.int .u8 (.ofNat 0),.int .u8 (.ofNat 0),.int .u8 (.ofNat 0),.int .u8 (.ofNat 0),.int .u8 (.ofNat 0),.int .u8 (.ofNat 0),.int .u8 (.ofNat 0),.int .u8 (.ofNat 0)] false false)).2.nx.toNat:=z0h
 have eA:(H.new (.cells [.int .u8 (.ofNat 0),.int .u8 (.ofNat 0),.int .u8 (.ofNat 0),.int .u8 (.ofNat 0),.int .u8 (.ofNat 0),.int .u8 (.ofNat 0),.int .u8 (.ofNat 0),.int .u8 (.ofNat 0)] false false)).2.nx=H.nx.succ:=rfl
 generalize hA:(H.new (.cells [.int .u8 (.ofNat 0),.int .u8 (.ofNat 0),.int .u8 (.ofNat 0),.int .u8 (.ofNat 0),.int .u8 (.ofNat 0),.int .u8 (.ofNat 0),.int .u8 (.ofNat 0),.int .u8 (.ofNat 0)] false false)).2=A at *
 have nA:A.nx.toNat=H.nx.toNat+1:=by rw[eA,Pos.toNat_succ]
 have kB:Keep A.nx.toNat A (A.new (.cells [.int .u8 (.ofNat 112),.int .u8 (.ofNat k),.int .u8 (.ofNat (n/256)),.int .u8 (.ofNat (n%256)),.int .u8 (.ofNat 0),.int .u8 (.ofNat 0),.int .u8 (.ofNat 0),.int .u8 (.ofNat 0)] false false)).2:=z0d
 have gB:PT.get H.nx.succ (A.new (.cells [.int .u8 (.ofNat 112),.int .u8 (.ofNat k),.int .u8 (.ofNat (n/256)),.int .u8 (.ofNat (n%256)),.int .u8 (.ofNat 0),.int .u8 (.ofNat 0),.int .u8 (.ofNat 0),.int .u8 (.ofNat 0)] false false)).2.t=some (.cells [.int .u8 (.ofNat 112),.int .u8 (.ofNat k),.int .u8 (.ofNat (n/256)),.int .u8 (.ofNat (n%256)),.int .u8 (.ofNat 0),.int .u8 (.ofNat 0),.int .u8 (.ofNat 0),.int .u8 (.ofNat 0)] false false):=by rw[<-eA];exact z0i
 have lB:H.nx.succ.toNat<(A.new (.cells [.int .u8 (.ofNat 112),.int .u8 (.ofNat k),.int .u8 (.ofNat (n/256)),.int .u8 (.ofNat (n%256)),.int .u8 (.ofNat 0),.int .u8 (.ofNat 0),.int .u8 (.ofNat 0),.int .u8 (.ofNat 0)] false false)).2.nx.toNat:=by rw[<-eA];exact z0h
 have eB:(A.new (.cells [.int .u8 (.ofNat 112),.int .u8 (.ofNat k),.int .u8 (.ofNat (n/256)),.int .u8 (.ofNat (n%256)),.int .u8 (.ofNat 0),.int .u8 (.ofNat 0),.int .u8 (.ofNat 0),.int .u8 (.ofNat 0)] false false)).2.nx=H.nx.succ.succ:=by show A.nx.succ=_;rw[eA]
 generalize hB:(A.new (.cells [.int .u8 (.ofNat 112),.int .u8 (.ofNat k),.int .u8 (.ofNat (n/256)),.int .u8 (.ofNat (n%256)),.int .u8 (.ofNat 0),.int .u8 (.ofNat 0),.int .u8 (.ofNat 0),.int .u8 (.ofNat 0)] false false)).2=B at *
 have sl:By B (.sl H.nx.succ 0 4 8 0) (hd4 k n):=⟨⟨rfl,.inr ⟨H.nx.succ,0,8,0,rfl,by rw[z2x gB];rfl,.inl rfl,(by show 4<=8;omega),lB⟩⟩,q43 hk hn⟩
 have tB:=(ht.keep kA lr).keep kB lr
 have c1:=q46 C tB sl (by show 4<=_;omega)
 have kC:Keep B.nx.toNat B (B.new (.cells (z0b (b4 (z2m (hd4 k n)))) false false)).2:=z0d
 have eC:(B.new (.cells (z0b (b4 (z2m (hd4 k n)))) false false)).2.nx=H.nx.succ.succ.succ:=by show B.nx.succ=_;rw[eB]
 have nB:=kB.nx
 have nC:=kC.nx
 generalize hc:z2m (hd4 k n)=c at *
 generalize hC:(B.new (.cells (z0b (b4 c)) false false)).2=X at *
 have kD:Keep X.nx.toNat X (X.new (.cells (z0b (b4 c)) false false)).2:=z0d
 have gD:PT.get H.nx.succ.succ.succ (X.new (.cells (z0b (b4 c)) false false)).2.t=some (.cells (z0b (b4 c)) false false):=by rw[<-eC];exact z0i
 have gD1:PT.get H.nx.succ (X.new (.cells (z0b (b4 c)) false false)).2.t=some (.cells [.int .u8 (.ofNat 112),.int .u8 (.ofNat k),.int .u8 (.ofNat (n/256)),.int .u8 (.ofNat (n%256)),.int .u8 (.ofNat 0),.int .u8 (.ofNat 0),.int .u8 (.ofNat 0),.int .u8 (.ofNat 0)] false false):=by rw[kD.get _ (by omega),kC.get _ lB];exact gB
 have gD0:PT.get H.nx (X.new (.cells (z0b (b4 c)) false false)).2.t=some (.cells [.int .u8 (.ofNat 0),.int .u8 (.ofNat 0),.int .u8 (.ofNat 0),.int .u8 (.ofNat 0),.int .u8 (.ofNat 0),.int .u8 (.ofNat 0),.int .u8 (.ofNat 0),.int .u8 (.ofNat 0)] false false):=by rw[kD.get _ (by omega),kC.get _ (by omega),kB.get _ lA];exact gA
 have nD:=kD.nx
 have eb:z0b (b4 c)=[.int .u8 (.ofNat (c/16777216%256)),.int .u8 (.ofNat (c/65536%256)),.int .u8 (.ofNat (c/256%256)),.int .u8 (.ofNat (c%256))]:=rfl
 have er:z0b (hd4 k n++b4 c)=[.int .u8 (.ofNat 112),.int .u8 (.ofNat k),.int .u8 (.ofNat (n/256)),.int .u8 (.ofNat (n%256)),.int .u8 (.ofNat (c/16777216%256)),.int .u8 (.ofNat (c/65536%256)),.int .u8 (.ofNat (c/256%256)),.int .u8 (.ofNat (c%256))]:=rfl
 rw[er]
 have hcp:z05 (X.new (.cells (z0b (b4 c)) false false)).2 H.nx.succ 4 (z0b (b4 c))=some ((X.new (.cells (z0b (b4 c)) false false)).2.upd H.nx.succ (.cells [.int .u8 (.ofNat 112),.int .u8 (.ofNat k),.int .u8 (.ofNat (n/256)),.int .u8 (.ofNat (n%256)),.int .u8 (.ofNat (c/16777216%256)),.int .u8 (.ofNat (c/65536%256)),.int .u8 (.ofNat (c/256%256)),.int .u8 (.ofNat (c%256))] false false)):=by
  rw[z0z gD1 (z3p _) (by rw[eb];rfl)];rfl
 have hfn:z31 (X.new (.cells (z0b (b4 c)) false false)).2 1 (Nat.min 4 4) (.sl H.nx.succ.succ.succ 0 4 4 0)=some (z0b (b4 c)):=by
  show z0t _ _ 0 (Nat.mul 4 1)=_
  rw[z2x gD];rfl
 have pS:H.nx.succ.toNat=H.nx.toNat+1:=Pos.toNat_succ _
 have ne01:H.nx.toNat≠H.nx.succ.toNat:=by omega
 have gE0:PT.get H.nx ((X.new (.cells (z0b (b4 c)) false false)).2.upd H.nx.succ (.cells [.int .u8 (.ofNat 112),.int .u8 (.ofNat k),.int .u8 (.ofNat (n/256)),.int .u8 (.ofNat (n%256)),.int .u8 (.ofNat (c/16777216%256)),.int .u8 (.ofNat (c/65536%256)),.int .u8 (.ofNat (c/256%256)),.int .u8 (.ofNat (c%256))] false false)).t=some (.cells [.int .u8 (.ofNat 0),.int .u8 (.ofNat 0),.int .u8 (.ofNat 0),.int .u8 (.ofNat 0),.int .u8 (.ofNat 0),.int .u8 (.ofNat 0),.int .u8 (.ofNat 0),.int .u8 (.ofNat 0)] false false):=by rw[z8o ne01];exact gD0
 have st0:=z0z gE0 (o:=0) (vs:=[.int .u8 (.ofNat 112),.int .u8 (.ofNat k),.int .u8 (.ofNat (n/256)),.int .u8 (.ofNat (n%256)),.int .u8 (.ofNat (c/16777216%256)),.int .u8 (.ofNat (c/65536%256)),.int .u8 (.ofNat (c/256%256)),.int .u8 (.ofNat (c%256))]) rfl rfl
 refine⟨_,?_,((((kA.trans (kB.mono (by omega))).trans (kC.mono (by omega))).trans (kD.mono (by omega))).trans (z0s (b:=H.nx.succ) (x:=.cells [.int .u8 (.ofNat 112),.int .u8 (.ofNat k),.int .u8 (.ofNat (n/256)),.int .u8 (.ofNat (n%256)),.int .u8 (.ofNat (c/16777216%256)),.int .u8 (.ofNat (c/65536%256)),.int .u8 (.ofNat (c/256%256)),.int .u8 (.ofNat (c%256))] false false) (by omega))).trans (z0s (b:=H.nx) (x:=.cells [.int .u8 (.ofNat 112),.int .u8 (.ofNat k),.int .u8 (.ofNat (n/256)),.int .u8 (.ofNat (n%256)),.int .u8 (.ofNat (c/16777216%256)),.int .u8 (.ofNat (c/65536%256)),.int .u8 (.ofNat (c/256%256)),.int .u8 (.ofNat (c%256))] false false) lr)⟩
 subst hC
 subst hB
 subst hA
 simp only[eb]at hcp hfn c1 st0 gE0 gD0 ⊢
 refine C.c197.re (by conv=>lhs;reduce) ?_
 simp(maxDischargeDepth:=9)only[auX,reduceCtorEq,Nat.reduceAdd,Nat.reduceSub,zA,Nat.reduceAnd,ks,n1,shs,q6b (n:=8) (k:=4) (b:=H.nx.succ) (by omega) (by omega),q6a (n:=8) (k:=4) (b:=H.nx.succ) (by omega),q59 (n:=4) (b:=H.nx.succ.succ.succ) (by omega),z0c c1,k1p (n:=4) (len:=4) (cap:=4) (z:=0) rfl hfn hcp,st0]
end
theorem By.arr{H:AHeap}{w:AVal}{us:List Nat}(h:By H w us){n:Nat}(hn:us.length=n)(h0:0<n) :∃ b o,j5s n w=some (.ptr b o)/\∀ H2,Keep H.nx.toNat H H2->z0t H2 b o n=some (z0b us):=by
 obtain⟨⟨hl,⟨rfl,e⟩ | ⟨b,o,c,z,rfl,hg,hz,hc,hlt⟩⟩,hu⟩:=h
 .omega
 .refine⟨b,o,?_,fun H2 k=>?_⟩
  .simp only[j5s,z4u (show n<=us.length by omega)]
  .rw[y8w k hlt,<-hn,<-hg,Nat.mul_one]
theorem j2g{H:AHeap}{us vs:List Nat}{n:Nat}(h1:us.length=n)(h2:vs.length=n) :eqV H (.cells (List.replicate n .int)) (.agg (z0b us)) (.agg (z0b vs))=some (decide (us=vs)):=by
 have:=j77 (H:=H) (us:=us) (vs:=vs) (by omega)
 rw[List.map_const',h1]at this
 exact this
theorem By.len{H:AHeap}{w:AVal}{us:List Nat}(h:By H w us) :lenA w=some us.length:=by
 obtain⟨⟨hl,⟨rfl,e⟩ | ⟨b,o,c,z,rfl,_⟩⟩,hu⟩:=h
 .show some 0=_;rw[e]
 .rfl
theorem By.first{H:AHeap}{w:AVal}{us:List Nat}(h:By H w us) :z31 H 1 us.length w=some (z0b us):=by
 obtain⟨⟨hl,⟨rfl,e⟩ | ⟨b,o,c,z,rfl,hg,_⟩⟩,hu⟩:=h
 .obtain rfl:us=[]:=List.eq_nil_of_length_eq_zero e
  rfl
 .exact hg
theorem y4p{us:List Nat}{k n:Nat}(h:12+n<=us.length) :us.take (12+n)=fenc k ((us.drop 8).take n)↔us.take 8=hd4 k n++b4 (z2m (hd4 k n))/\(us.drop (8+n)).take 4=b4 (z2m ((us.drop 8).take n)):=by
 have pl:((us.drop 8).take n).length=n:=by simp;omega
 have e:us.take (12+n)=us.take 8++((us.drop 8).take n++(us.drop (8+n)).take 4):=by
  rw[show 12+n=8+(n+4)by omega,List.take_add,List.take_add,List.drop_drop]
 have f:fenc k ((us.drop 8).take n)=(hd4 k n++b4 (z2m (hd4 k n)))++((us.drop 8).take n++b4 (z2m ((us.drop 8).take n))):=by
  unfold fenc
  rw[pl]
  simp only[List.append_assoc]
 rw[e,f]
 constructor
 .intro q
  obtain⟨q1,q2⟩:=List.append_inj q (by rw[List.length_take,List.length_append,z0k];show min 8 us.length=4+4;omega)
  exact⟨q1,(List.append_inj q2 rfl).2⟩
 .rintro⟨q1,q2⟩
  rw[q1,q2]
section
variable{E:Env}(C:CkS E)
include C
theorem q5g{H:AHeap}(ht:Tab H){v:AVal}{us:List Nat}(h:By H v us)(hn:us.length<=1000000) :∃ r H',z0f E 134 [v] H r H'/\DecF H.nx.toNat us r H'/\Keep H.nx.toNat H H':=by
 have hsc:=h.sc
 have k0:Keep H.nx.toNat H (H.new (.cells [.int .i64 (.ofNat 0),.snil] false false)).2:=z0d
 by_cases h12:us.length<12
 .refine⟨_,_,?_,.inl ⟨z7f (by omega),rfl⟩,k0⟩
  refine C.c134.re (by conv=>lhs;reduce) ?_
  simp(maxDischargeDepth:=9)only[auX,Nat.reduceAdd,zA,hsc,h12]
 obtain⟨p1,o1,i1,st1⟩:=h.atS (i:=1) (by omega)
 obtain⟨p2,o2,i2,st2⟩:=h.atS (i:=2) (by omega)
 obtain⟨p3,o3,i3,st3⟩:=h.atS (i:=3) (by omega)
 have u1:=h.2 _ (List.getElem_mem (show 1<us.length by omega))
 have u2:=h.2 _ (List.getElem_mem (show 2<us.length by omega))
 have u3:=h.2 _ (List.getElem_mem (show 3<us.length by omega))
 have hfl:flen us=us[2]*256+us[3]:=by unfold flen;rw[z4o (by omega),z4o (by omega)]
 have a1:=shl8 (a:=us[2]) (by omega)
 have a2:=z0o (i:=us[2]*256) (k:=us[3]) (by omega)
 rw[<-hfl]at a2
 have a3:=z0o (i:=8) (k:=flen us) (by omega)
 have a4:=z0o (i:=8+flen us) (k:=4) (by omega)
 have ww:=w64 (i:=us[1]) (by omega)
 have w2:=w64 (i:=us[2]) (by omega)
 have w3:=w64 (i:=us[3]) (by omega)
 have l0:H.nx.toNat<(H.new (.cells [.int .i64 (.ofNat 0),.snil] false false)).2.nx.toNat:=z0h
 have e0:(H.new (.cells [.int .i64 (.ofNat 0),.snil] false false)).2.nx=H.nx.succ:=rfl
 have g0:PT.get H.nx (H.new (.cells [.int .i64 (.ofNat 0),.snil] false false)).2.t=some (.cells [.int .i64 (.ofNat 0),.snil] false false):=z0i
 have j1:=st1 _ k0
 have j2:=st2 _ k0
 have j3:=st3 _ k0
 have ck:=k02 C (H:=(H.new (.cells [.int .i64 (.ofNat 0),.snil] false false)).2) us[1]
 have bad:fdec us=none->(∃ r H',z0f E 134 [v] H r H'/\r=.tup [.agg [.int .i64 (.ofNat 0),.snil],.int .i64 (.ofNat 0),.int .i64 (.ofNat 32)]/\Keep H.nx.toNat H H')->∃ r H',z0f E 134 [v] H r H'/\DecF H.nx.toNat us r H'/\Keep H.nx.toNat H H':=fun hd ⟨r,H',c,e,k⟩=>⟨r,H',c,.inl ⟨hd,e⟩,k⟩
 by_cases hk:z34 us[1]
 rotate_left
 .rw[decide_eq_false hk]at ck
  refine bad ?_ ⟨_,_,?_,rfl,k0⟩
  .unfold fdec
   rw[if_neg (fun q=>hk (by rw[<-z4o (by omega)];exact q.2.2.1))]
  .refine C.c134.re (by conv=>lhs;reduce) ?_
   simp(maxDischargeDepth:=9)only[auX,reduceCtorEq,Nat.reduceAdd,zA,Nat.reduceAnd,hsc,h12,i1,i2,i3,j1,j2,j3,ww,w2,w3,a1,a2,z0j ck]
 rw[decide_eq_true hk]at ck
 by_cases hm:1024<flen us
 .refine bad ?_ ⟨_,_,?_,rfl,k0⟩
  .unfold fdec
   rw[if_neg (fun q=>by omega)]
  .refine C.c134.re (by conv=>lhs;reduce) ?_
   simp(maxDischargeDepth:=9)only[auX,bq,reduceCtorEq,Nat.reduceAdd,zA,Nat.reduceAnd,hsc,h12,i1,i2,i3,j1,j2,j3,ww,w2,w3,a1,a2,z0j ck,eq_true hm]
 by_cases hs:us.length<8+flen us+4
 .refine bad (z7f (by omega)) ⟨_,_,?_,rfl,k0⟩
  refine C.c134.re (by conv=>lhs;reduce) ?_
  simp(maxDischargeDepth:=9)only[auX,bq,reduceCtorEq,Nat.reduceAdd,zA,Nat.reduceAnd,hsc,h12,i1,i2,i3,j1,j2,j3,ww,w2,w3,a1,a2,a3,a4,z0j ck,eq_false hm,eq_true hs]
 have hs':12+flen us<=us.length:=by omega
 have hfd:=y9e hs'
 rw[z4o (show 1<us.length by omega)]at hfd
 have hpt:=y4p (k:=us[1]) hs'
 have y0:=h.keep k0 lr
 obtain⟨w8,b8,_,_,s8,_⟩:=y0.sub (a:=0) (b:=8) (by omega) (by omega) (by omega)
 rw[List.drop_zero,Nat.sub_zero]at b8
 have s8:=fun {t:PT AVal} {y:AOpnd}=>s8 rfl (t:=t) (y:=y)
 have l8:(us.take 8).length=8:=by simp;omega
 obtain⟨q8,z8,m8,ld8⟩:=b8.arr l8 (by omega)
 obtain⟨H2,c2,K2⟩:=q10 C (ht.keep k0 lr) hk (n:=flen us) (by omega)
 have lh:(hd4 us[1] (flen us)++b4 (z2m (hd4 us[1] (flen us)))).length=8:=rfl
 have eq8:∀ H,eqV H (.cells [.int,.int,.int,.int,.int,.int,.int,.int]) (.agg (z0b (us.take 8))) (.agg (z0b (hd4 us[1] (flen us)++b4 (z2m (hd4 us[1] (flen us))))))=some (decide (us.take 8=hd4 us[1] (flen us)++b4 (z2m (hd4 us[1] (flen us))))):=fun H=>j2g (H:=H) l8 lh
 have ld80:=ld8 _ (Keep.refl _ _)
 have ld82:=ld8 _ K2
 have n2:=K2.nx
 have g2:PT.get H.nx H2.t=some (.cells [.int .i64 (.ofNat 0),.snil] false false):=by rw[K2.get _ l0];exact g0
 have kk2:Keep H.nx.toNat H H2:=k0.trans (K2.mono (by omega))
 generalize hhd:hd4 us[1] (flen us)++b4 (z2m (hd4 us[1] (flen us)))=hd at *
 have ag8:same (.agg (z0b (us.take 8))) (.agg (z0b (us.take 8)))=true:=by
  have:∀ l:List Nat,z59 (z0b l) (z0b l)=true:=fun l=>by
   induction l with
   | nil=>rfl
   | cons a l ih=>simp only[z0b,z59,y05,ih,Bool.and_self]
  exact this _
 by_cases he8:us.take 8=hd
 rotate_left
 .have st:=z0z g2 (o:=0) (vs:=[.int .i64 (.ofNat 0),.snil]) rfl rfl
  refine bad (by rw[hfd,if_neg (fun q=>he8 (hpt.1 q.2).1)]) ⟨_,H2.upd H.nx (.cells [.int .i64 (.ofNat 0),.snil] false false),?_,rfl,kk2.trans (z0s lr)⟩
  refine C.c134.re (by conv=>lhs;reduce) ?_
  simp(maxDischargeDepth:=9)only[auX,bq,reduceCtorEq,Nat.reduceAdd,zA,Nat.reduceAnd,hsc,h12,i1,i2,i3,j1,j2,j3,ww,w2,w3,a1,a2,a3,a4,z0j ck,eq_false hm,eq_false hs,s8,m8,ld80,ld82,z0j c2,eq8,eq_false he8,b8.sc,ag8,st]
 have y2:=y0.keep K2 lr
 obtain⟨wp,bp,_,sP,_⟩:=y2.sub (a:=8) (b:=8+flen us) (by omega) (by omega) (by omega)
 rw[show 8+flen us-8=flen us by omega]at bp
 obtain⟨ws,b4s,_,sS,_⟩:=y2.sub (a:=8+flen us) (b:=8+flen us+4) (by omega) (by omega) (by omega)
 rw[show 8+flen us+4-(8+flen us)=4 by omega]at b4s
 have pl:((us.drop 8).take (flen us)).length=flen us:=by simp;omega
 have l4:((us.drop (8+flen us)).take 4).length=4:=by simp;omega
 obtain⟨q4,z4,m4,ld4⟩:=b4s.arr l4 (by omega)
 have c3:=q46 C ((ht.keep k0 lr).keep K2 lr) bp (by omega)
 have K3:Keep H2.nx.toNat H2 (H2.new (.cells (z0b (b4 (z2m ((us.drop 8).take (flen us))))) false false)).2:=z0d
 have ld40:=ld4 _ (Keep.refl _ _)
 have ld43:=ld4 _ K3
 generalize hpp:(us.drop 8).take (flen us)=p at *
 generalize hss:(us.drop (8+flen us)).take 4=tl at *
 have eq4:∀ H,eqV H (.cells [.int,.int,.int,.int]) (.agg (z0b tl)) (.agg (z0b (b4 (z2m p))))=some (decide (tl=b4 (z2m p))):=fun H=>j2g (H:=H) l4 rfl
 have ag:∀ l:List Nat,same (.agg (z0b l)) (.agg (z0b l))=true:=fun l=>by
  have:∀ l:List Nat,z59 (z0b l) (z0b l)=true:=fun l=>by
   induction l with
   | nil=>rfl
   | cons a l ih=>simp only[z0b,z59,y05,ih,Bool.and_self]
  exact this l
 have ag4:=ag tl
 have kk3:Keep H.nx.toNat H (H2.new (.cells (z0b (b4 (z2m p))) false false)).2:=kk2.trans (K3.mono (by omega))
 have n3:(H2.new (.cells (z0b (b4 (z2m p))) false false)).2.nx=H2.nx.succ:=rfl
 have n3':H2.nx.succ.toNat=H2.nx.toNat+1:=Pos.toNat_succ _
 have g3:PT.get H.nx (H2.new (.cells (z0b (b4 (z2m p))) false false)).2.t=some (.cells [.int .i64 (.ofNat 0),.snil] false false):=by rw[K3.get _ (by omega)];exact g2
 by_cases he4:tl=b4 (z2m p)
 rotate_left
 .have st:=z0z g3 (o:=0) (vs:=[.int .i64 (.ofNat 0),.snil]) rfl rfl
  refine bad (by rw[hfd,if_neg (fun q=>he4 (hpt.1 q.2).2)]) ⟨_,(H2.new (.cells (z0b (b4 (z2m p))) false false)).2.upd H.nx (.cells [.int .i64 (.ofNat 0),.snil] false false),?_,rfl,kk3.trans (z0s lr)⟩
  refine C.c134.re (by conv=>lhs;reduce) ?_
  simp(maxDischargeDepth:=9)only[auX,bq,reduceCtorEq,Nat.reduceAdd,zA,Nat.reduceAnd,hsc,h12,i1,i2,i3,j1,j2,j3,ww,w2,w3,a1,a2,a3,a4,z0j ck,eq_false hm,eq_false hs,s8,m8,ld80,ld82,z0j c2,eq8,eq_true he8,b8.sc,ag8,sP,sS,m4,ld40,ld43,z0j c3,eq4,b4s.sc,ag4,eq_false he4,st]
 have bp3:=bp.keep K3 lr
 obtain⟨X,hX⟩ :∃ X,X=(H2.new (.cells (z0b (b4 (z2m p))) false false)).2:=⟨_,rfl⟩
 rw[<-hX]at bp3 g3 kk3 n3
 have K4:Keep X.nx.toNat X (X.new (.cells (repl [.int .u8 (.ofNat 0)] (flen us)) false false)).2:=z0d
 have bp4:=bp3.keep K4 lr
 have hl:=bp4.len
 have hf:=bp4.first
 rw[pl]at hl hf
 have hf:z31 (X.new (.cells (repl [.int .u8 (.ofNat 0)] (flen us)) false false)).2 1 (Nat.min (flen us) (flen us)) wp=some (z0b p):=by
  rw[show Nat.min (flen us) (flen us)=flen us from Nat.min_self _];exact hf
 have lp:lput (repl [.int .u8 (.ofNat 0)] (flen us)) 0 (z0b p)=some (z0b p):=by
  rw[z36 _ _ _ (by rw[z2d,z1d];omega),List.drop_eq_nil_of_le (by rw[z2d,z1d];omega)]
  simp
 have hs5:z05 (X.new (.cells (repl [.int .u8 (.ofNat 0)] (flen us)) false false)).2 H2.nx.succ 0 (z0b p)=some (X.new (.cells (z0b p) false false)).2:=by
  rw[y8u n3.symm (z3p p) (by rw[lp];rfl),lp,j7o]
 have K5:Keep X.nx.toNat X (X.new (.cells (z0b p) false false)).2:=z0d
 have g5:PT.get H.nx (X.new (.cells (z0b p) false false)).2.t=some (.cells [.int .i64 (.ofNat 0),.snil] false false):=by rw[K5.get _ (by rw[n3];omega)];exact g3
 have st:=z0z g5 (o:=0) (vs:=[.int .i64 (.ofNat us[1]),.sl H2.nx.succ 0 (flen us) (flen us) 0]) rfl rfl
 have L:=z5g (H:=X) p bp.2
 rw[pl,n3]at L
 have fin:=L.other (H':=(X.new (.cells (z0b p) false false)).2.upd H.nx (.cells [.int .i64 (.ofNat us[1]),.sl H2.nx.succ 0 (flen us) (flen us) 0] false false)) (fun z hz=>z0a (fun e=>by cases hz;have:=congrArg Pos.toNat e;omega)) lr
 have nX:X.nx.toNat=H2.nx.toNat+1:=by rw[n3];exact n3'
 have a5:8+flen us+4=12+flen us:=by omega
 refine⟨_,(X.new (.cells (z0b p) false false)).2.upd H.nx (.cells [.int .i64 (.ofNat us[1]),.sl H2.nx.succ 0 (flen us) (flen us) 0] false false),?_,.inr ⟨us[1],p,.sl H2.nx.succ 0 (flen us) (flen us) 0,by rw[hfd,if_pos ⟨⟨by omega,hk⟩,hpt.2 ⟨he8,he4⟩⟩],rfl,fin.mono (by omega)⟩,(kk3.trans (K5.mono (by omega))).trans (z0s lr)⟩
 rw[pl,<-a5]
 subst hX
 refine C.c134.re (by conv=>lhs;reduce) ?_
 simp(maxDischargeDepth:=9)only[auX,bq,reduceCtorEq,Nat.reduceAdd,zA,Nat.reduceAnd,hsc,h12,i1,i2,i3,j1,j2,j3,ww,w2,w3,a1,a2,a3,a4,z0j ck,eq_false hm,eq_false hs,s8,m8,ld80,ld82,z0j c2,eq8,eq_true he8,b8.sc,ag8,sP,sS,m4,ld40,ld43,z0j c3,eq4,b4s.sc,ag4,eq_true he4,j2w (bytes:=1) (n:=flen us) (c:=flen us) (by omega),q4h (n:=flen us) (len:=flen us) (cap:=flen us) (z:=0) hl hf hs5,st]
end
def PHas(H:AHeap)(F:Pos)(nm us:List Nat) :Prop:=∃ (m l h:Pos) (pv:AVal) (fl:List PF) (nl np ct:Nat) (f:PF),PSt H F m l h pv fl nl np ct/\f∈fl/\f.nm=nm/\f.bs=us/\IsNm nm/\us.length<=1000000/\(∀ u∈us,u<256)/\Tab H
theorem PHas.keep{m:Nat}{H H':AHeap}{F:Pos}{nm us:List Nat}(h:PHas H F nm us)(k:Keep m H H')(hm:H.nx.toNat<=m) :PHas H' F nm us:=by
 obtain⟨a,b,c,d,e,f,g,i,j,h,r1,r2,r3,r4,r5,r6,r7⟩:=h
 exact⟨a,b,c,d,e,f,g,i,j,h.keep k hm,r1,r2,r3,r4,r5,r6,r7.keep k hm⟩
theorem PHas.b{H:AHeap}{F:Pos}{nm us:List Nat}(h:PHas H F nm us) :us.length<=1000000/\(∀ u∈us,u<256)/\Tab H:=by
 obtain⟨_,_,_,_,_,_,_,_,_,_,_,_,_,_,r⟩:=h
 exact r
def NxP(F:Pos)(nm:List Nat)(N:Nat)(q:Pos)(at' ct:Nat)(u:List Nat)(r:AVal)(H':AHeap) :Prop :=
 (fdec u=none/\r=.tup [.agg [.int .i64 (.ofNat 0),.snil],.int .i64 (.ofNat 90)]/\PT.get q H'.t=some (.cells (RdC F nm at' ct) false false)) ∨
 ∃ k p w,fdec u=some (k,p)/\r=.tup [.agg [.int .i64 (.ofNat k),w],.int .i64 (.ofNat 0)]/\Bo N H' w p/\PT.get q H'.t=some (.cells (RdC F nm (at'+(12+p.length)) ct) false false)
structure But (q:Pos) (H H':AHeap) :Prop where
 nx:H.nx.toNat<=H'.nx.toNat
 get:∀ p:Pos,p.toNat<H.nx.toNat->p≠q->PT.get p H'.t=PT.get p H.t
theorem But.keep{B H H':AHeap}{q:Pos}(b:But q H H')(k:Keep B.nx.toNat B H)(hq:B.nx.toNat<=q.toNat) :Keep B.nx.toNat B H' :=
 ⟨Nat.le_trans k.nx b.nx,fun p hp=>by rw[b.get p (Nat.lt_of_lt_of_le hp k.nx) (fun e=>by rw[e]at hp;omega),k.get p hp]⟩
theorem But.trans{A B D:AHeap}{q:Pos}(x:But q A B)(y:But q B D) :But q A D:=⟨Nat.le_trans x.nx y.nx,fun p hp hq=>by rw[y.get p (Nat.lt_of_lt_of_le hp x.nx) hq,x.get p hp hq]⟩
theorem Keep.but{A B:AHeap}{q:Pos}(x:Keep A.nx.toNat A B) :But q A B:=⟨x.nx,fun p hp _=>x.get p hp⟩
theorem But.upd{A B:AHeap}{q:Pos}{x:AObj}(h:But q A B) :But q A (B.upd q x):=⟨h.nx,fun p hp hq=>by rw[z0a (fun e=>hq e.symm),h.get p hp hq]⟩
theorem But.new{A B:AHeap}{q p:Pos}{x:AObj}(h:But q A B)(hp:A.nx.toNat<=p.toNat) :But q A (B.upd p x):=⟨h.nx,fun z hz hq=>by rw[z0a (fun e=>by rw[e]at hp;omega),h.get z hz hq]⟩
section
variable{E:Env}(C:CkS E)
include C
theorem j4t{H:AHeap}{F:Pos}{nm us:List Nat}(h:PHas H F nm us)(a n:Nat)(ha:a<=1000000000)(hn:n<=1000000000) :∃ w H',z0f E 114 [.ptr F 0,.str nm,.int .i64 (.ofNat a),.int .i64 (.ofNat n)] H (.tup [w,.int .i64 (.ofNat 0)]) H'/\By H' w ((us.drop a).take n)/\Keep H.nx.toNat H H':=by
 obtain⟨m,l,h',pv,fl,nl,np,ct,f,h,h1,rfl,rfl,h4,h5,_⟩:=h
 obtain⟨w,H',c,b,k⟩:=y6q C h h1 h4 h5 a n ha hn
 exact⟨w,H',c,b.by,k⟩
theorem q7p{H:AHeap}(m:Nat)(hm:m<4294967296) :z0f E 305 [.int .i64 (.ofNat m)] H (.sl H.nx 0 4 4 0) (H.new (.cells (z0b (b4 m)) false false)).2:=by
 refine C.c305.re (by conv=>lhs;reduce) ?_
 simp(maxDischargeDepth:=9)only[auX,shs,z0b,b4]
theorem y7v{H:AHeap}{F:Pos}{nm us:List Nat}(h:PHas H F nm us){q:Pos}(hq2:q.toNat<H.nx.toNat){at' ct:Nat}(hg:PT.get q H.t=some (.cells (RdC F nm at' ct) false false))(ha:at'<=100000000) :
  ∃ r H',z0f E 174 [.ptr q 0] H r H'/\NxP F nm H.nx.toNat q at' ct (us.drop at') r H'/\But q H H':=by
 have k0:Keep H.nx.toNat H (H.new (.cells [.int .i64 (.ofNat 0),.snil] false false)).2:=z0d
 have g0:PT.get H.nx (H.new (.cells [.int .i64 (.ofNat 0),.snil] false false)).2.t=some (.cells [.int .i64 (.ofNat 0),.snil] false false):=z0i
 have l0:H.nx.toNat<(H.new (.cells [.int .i64 (.ofNat 0),.snil] false false)).2.nx.toNat:=z0h
 have hq0:PT.get q (H.new (.cells [.int .i64 (.ofNat 0),.snil] false false)).2.t=some (.cells (RdC F nm at' ct) false false):=by rw[k0.get _ hq2];exact hg
 obtain⟨wb,H1,c1,B1,K1⟩:=j4t C (h.keep k0 lr) at' 1036 (by omega) (by omega)
 have hb:=h.b.1
 have n1:=K1.nx
 have kk1:Keep H.nx.toNat H H1:=k0.trans (K1.mono (by omega))
 obtain⟨r,H2,c2,D,K2⟩:=q5g C (h.b.2.2.keep kk1 lr) B1 (by simp;omega)
 have n2:=K2.nx
 have hsc:=B1.sc
 have g2:PT.get H.nx H2.t=some (.cells [.int .i64 (.ofNat 0),.snil] false false):=by rw[K2.get _ (by omega),K1.get _ l0];exact g0
 have kk:Keep H.nx.toNat H H2:=kk1.trans (K2.mono (by omega))
 have hne:H.nx≠q:=fun e=>by rw[<-e]at hq2;omega
 rcases D with⟨d1,rfl⟩ | ⟨k,p,w,d1,rfl,B2⟩
 .rw[j0v (by omega)]at d1
  have k3:Keep H2.nx.toNat H2 (H2.new (.cells [.int .i64 (.ofNat 0),.snil] false false)).2:=z0d
  have g3:PT.get H.nx (H2.new (.cells [.int .i64 (.ofNat 0),.snil] false false)).2.t=some (.cells [.int .i64 (.ofNat 0),.snil] false false):=by rw[k3.get _ (by omega)];exact g2
  have kk3:Keep H.nx.toNat H (H2.new (.cells [.int .i64 (.ofNat 0),.snil] false false)).2:=kk.trans (k3.mono (by omega))
  have st:=z0z g3 (o:=0) (vs:=[.int .i64 (.ofNat 0),.snil]) rfl rfl
  refine⟨_,(H2.new (.cells [.int .i64 (.ofNat 0),.snil] false false)).2.upd H.nx (.cells [.int .i64 (.ofNat 0),.snil] false false),?_,.inl ⟨d1,rfl,by rw[z0a hne,kk3.get _ hq2];exact hg⟩,(Keep.but kk3).new lr⟩
  refine C.c174.re (by conv=>lhs;reduce) ?_
  simp(maxDischargeDepth:=9)only[auX,reduceCtorEq,Nat.reduceAdd,zA,aZ,Nat.reduceAnd,hl_g hq0,z0j c1,z0c c2,st]
 .have hp:=(z1y d1).2.1
  rw[j0v (by omega)]at d1
  have k3:Keep H2.nx.toNat H2 (H2.new (.cells [.int .i64 (.ofNat k),w] false false)).2:=z0d
  have kk3:Keep H.nx.toNat H (H2.new (.cells [.int .i64 (.ofNat k),w] false false)).2:=kk.trans (k3.mono (by omega))
  have q3:PT.get q (H2.new (.cells [.int .i64 (.ofNat k),w] false false)).2.t=some (.cells (RdC F nm at' ct) false false):=by rw[kk3.get _ hq2];exact hg
  have bs:=B2.by.sc
  have st:=z0z q3 (o:=2) (vs:=[.int .i64 (.ofNat (at'+(12+p.length)))]) rfl rfl
  have g3:PT.get H.nx ((H2.new (.cells [.int .i64 (.ofNat k),w] false false)).2.upd q (.cells (RdC F nm (at'+(12+p.length)) ct) false false)).t=some (.cells [.int .i64 (.ofNat 0),.snil] false false):=by rw[z0a (fun e=>hne e.symm),k3.get _ (by omega)];exact g2
  have g4:PT.get H2.nx ((H2.new (.cells [.int .i64 (.ofNat k),w] false false)).2.upd q (.cells (RdC F nm (at'+(12+p.length)) ct) false false)).t=some (.cells [.int .i64 (.ofNat k),w] false false):=by rw[z0a (fun e=>by rw[e]at hq2;omega)];exact z0i
  have st2:=z0z g3 (o:=0) (vs:=[.int .i64 (.ofNat k),w]) (by rw[z0p z5y,z0p bs.2.1];rfl) rfl
  have bl:∀ z,blk w z->z≠H.nx/\z≠q:=fun z hz=>⟨fun e=>by have:=B2.1.2 z hz;rw[e]at this;omega,fun e=>by have:=B2.1.2 z hz;rw[e]at this;omega⟩
  have B3:=((B2.keep k3 lr).other (H':=(H2.new (.cells [.int .i64 (.ofNat k),w] false false)).2.upd q (.cells (RdC F nm (at'+(12+p.length)) ct) false false)) (fun z hz=>z0a (fun e=>(bl z hz).2 e.symm)) lr).other (H':=((H2.new (.cells [.int .i64 (.ofNat k),w] false false)).2.upd q (.cells (RdC F nm (at'+(12+p.length)) ct) false false)).upd H.nx (.cells [.int .i64 (.ofNat k),w] false false)) (fun z hz=>z0a (fun e=>(bl z hz).1 e.symm)) lr
  refine⟨_,((H2.new (.cells [.int .i64 (.ofNat k),w] false false)).2.upd q (.cells (RdC F nm (at'+(12+p.length)) ct) false false)).upd H.nx (.cells [.int .i64 (.ofNat k),w] false false),?_,.inr ⟨k,p,w,d1,rfl,B3.mono (by omega),by rw[z0a hne];exact z0q⟩,((Keep.but kk3).upd).new lr⟩
  refine C.c174.re (by conv=>lhs;reduce) ?_
  simp(maxDischargeDepth:=9)only[auX,reduceCtorEq,Nat.reduceAdd,zA,aZ,Nat.reduceAnd,hl_g hq0,z0j c1,z0c c2,st,bs,hl_g q3,z0o (i:=at') (k:=12+p.length) (by omega),hn_g g4,st2]
theorem q60{H:AHeap}{F:Pos}{nm us:List Nat}(h:PHas H F nm us) :∃ r H',z0f E 121 [.ptr F 0,.str nm] H r H'/\OpR F nm H.nx.toNat us r H'/\Keep H.nx.toNat H H':=by
 have k0:Keep H.nx.toNat H (H.new (.cells (RdC F nm 0 0) false false)).2:=z0d
 have g0:PT.get H.nx (H.new (.cells (RdC F nm 0 0) false false)).2.t=some (.cells (RdC F nm 0 0) false false):=z0i
 have l0:H.nx.toNat<(H.new (.cells (RdC F nm 0 0) false false)).2.nx.toNat:=z0h
 obtain⟨r,H1,c1,D,K1⟩:=y7v C (h.keep k0 lr) l0 g0 (by omega)
 have n1:=K1.nx
 have kk1:Keep H.nx.toNat H H1:=K1.keep k0 lr
 rw[List.drop_zero]at D
 rcases D with⟨d1,rfl,_⟩ | ⟨k,p,w,d1,rfl,B1,g1⟩
 .have k2:Keep H1.nx.toNat H1 (H1.new (.cells [.int .i64 (.ofNat 0),.snil] false false)).2:=z0d
  refine⟨_,_,?_,.inr ⟨fun h e=>by rw[d1]at e;(cases e),rfl⟩,kk1.trans (k2.mono (by omega))⟩
  refine C.c121.re (by conv=>lhs;reduce) ?_
  simp(maxDischargeDepth:=9)only[auX,reduceCtorEq,Nat.reduceAdd,zA,z0c c1]
 .have bs:=B1.by.sc
  have k2:Keep H1.nx.toNat H1 (H1.new (.cells [.int .i64 (.ofNat k),w] false false)).2:=z0d
  have g2:PT.get H1.nx (H1.new (.cells [.int .i64 (.ofNat k),w] false false)).2.t=some (.cells [.int .i64 (.ofNat k),w] false false):=z0i
  have kk2:Keep H.nx.toNat H (H1.new (.cells [.int .i64 (.ofNat k),w] false false)).2:=kk1.trans (k2.mono (by omega))
  by_cases hk:k=1
  .subst hk
   refine⟨_,(H1.new (.cells [.int .i64 (.ofNat 1),w] false false)).2,?_,.inl ⟨p,H.nx,w,d1,rfl,(B1.keep k2 lr).mono (by omega),by rw[k2.get _ (by omega),g1,Nat.zero_add],lr,Nat.lt_of_lt_of_le (by omega:H.nx.toNat<H1.nx.toNat) k2.nx,fun hb=>?_⟩,kk2⟩
   .refine C.c121.re (by conv=>lhs;reduce) ?_
    simp(maxDischargeDepth:=9)only[auX,bq,Nat.reduceAdd,zA,aZ,z0c c1,bs]
   .have:=B1.1.2 _ hb
    omega
  .refine⟨_,_,?_,.inr ⟨fun h e=>by rw[d1]at e;(cases e);exact hk rfl,rfl⟩,kk2⟩
   refine C.c121.re (by conv=>lhs;reduce) ?_
   simp(maxDischargeDepth:=9)only[auX,bq,reduceCtorEq,Nat.reduceAdd,zA,aZ,z0c c1,bs,hk]
end
section
variable{E:Env}(C:CkS E)
include C
theorem k1k{H:AHeap}{F:Pos}{nm us:List Nat}(h:PHas H F nm us){q:Pos}(hq2:q.toNat<H.nx.toNat){at' ct:Nat}{dn:Bool}(hg:PT.get q H.t=some (.cells [.ptr F 0,.str nm,.int .i64 (.ofNat at'),.int .i64 (.ofNat ct),.bool dn] false false))(ha:at'<=1000000000)(hct:ct<4294967296){k:Nat}{w:AVal}{p:List Nat}(hp:By H w p) :
  ∃ H',z0f E 233 [.ptr q 0,.agg [.int .i64 (.ofNat k),w]] H (.int .i64 (.ofNat (if k=3/\p=b4 ct/\us.length<=at' then 0 else 90))) H'/\Keep H.nx.toNat H H':=by
 have hsc:=hp.sc
 have k0:Keep H.nx.toNat H (H.new (.cells [.int .i64 (.ofNat k),w] false false)).2:=z0d
 have g0:PT.get H.nx (H.new (.cells [.int .i64 (.ofNat k),w] false false)).2.t=some (.cells [.int .i64 (.ofNat k),w] false false):=z0i
 have l0:H.nx.toNat<(H.new (.cells [.int .i64 (.ofNat k),w] false false)).2.nx.toNat:=z0h
 have hq0:PT.get q (H.new (.cells [.int .i64 (.ofNat k),w] false false)).2.t=some (.cells [.ptr F 0,.str nm,.int .i64 (.ofNat at'),.int .i64 (.ofNat ct),.bool dn] false false):=by rw[k0.get _ hq2];exact hg
 have p0:=(hp.keep k0 lr).str
 have c4:=q7p C (H:=(H.new (.cells [.int .i64 (.ofNat k),w] false false)).2) ct hct
 have e4:(H.new (.cells [.int .i64 (.ofNat k),w] false false)).2.nx=H.nx.succ:=rfl
 rw[e4]at c4
 have k4:Keep (H.new (.cells [.int .i64 (.ofNat k),w] false false)).2.nx.toNat (H.new (.cells [.int .i64 (.ofNat k),w] false false)).2 ((H.new (.cells [.int .i64 (.ofNat k),w] false false)).2.new (.cells (z0b (b4 ct)) false false)).2:=z0d
 have L4:=(z5g (H:=(H.new (.cells [.int .i64 (.ofNat k),w] false false)).2) (b4 ct) (j2p _)).by.str
 rw[z0k,e4]at L4
 have p4:=((hp.keep k0 lr).keep k4 lr).str
 have hd0:=h.keep k0 lr
 have hd4:=hd0.keep k4 lr
 have kk4:Keep H.nx.toNat H _:=k0.trans (k4.mono (Nat.le_of_lt l0))
 have hq4:=(k4.get q (Nat.lt_trans hq2 l0)).trans hq0
 have g4:=(k4.get H.nx l0).trans g0
 generalize hX:(H.new (.cells [.int .i64 (.ofNat k),w] false false)).2=X at *
 generalize hY:(X.new (.cells (z0b (b4 ct)) false false)).2=Y at *
 have n4:=kk4.nx
 by_cases hk:k=3
 rotate_left
 .rw[if_neg (fun x=>hk x.1)]
  refine⟨X,?_,k0⟩
  refine C.c233.re (by conv=>lhs;reduce) ?_
  simp(maxDischargeDepth:=9)only[auX,aZ,hX,hl_g g0,hk]
 subst hk
 by_cases hpe:p=b4 ct
 rotate_left
 .rw[if_neg (fun x=>hpe x.2.1)]
  refine⟨Y,?_,kk4⟩
  refine C.c233.re (by conv=>lhs;reduce) ?_
  simp(maxDischargeDepth:=9)only[auX,bq,reduceCtorEq,zA,aZ,Nat.reduceAnd,hsc,hX,hl_g g0,hl_g g4,hl_g hq0,p0,p4,L4,z0j c4,z1j,eq_false hpe]
 obtain⟨wr,H5,c5,B5,K5⟩:=j4t C hd4 at' 1 ha (by omega)
 have kk5:Keep H.nx.toNat H H5:=kk4.trans (K5.mono n4)
 have hq5:PT.get q H5.t=some (.cells [.ptr F 0,.str nm,.int .i64 (.ofNat at'),.int .i64 (.ofNat ct),.bool dn] false false):=by rw[K5.get _ (by omega)];exact hq4
 have hl5:=B5.len
 have hs5:=B5.sc
 by_cases hm:us.length<=at'
 .rw[if_pos ⟨rfl,hpe,hm⟩]
  have hz:¬ 0<((us.drop at').take 1).length:=by simp;omega
  refine⟨H5,?_,kk5⟩
  refine C.c233.re (by conv=>lhs;reduce) ?_
  simp(maxDischargeDepth:=9)only[auX,bq,reduceCtorEq,zA,aZ,Nat.reduceAnd,hsc,hX,hl_g g0,hl_g g4,hl_g hq0,hl_g hq4,p0,p4,L4,z0j c4,z1j,eq_true hpe,z0j c5,hs5,eq_false hz]
 .rw[if_neg (fun x=>hm x.2.2)]
  have hz:0<((us.drop at').take 1).length:=by simp;omega
  refine⟨H5,?_,kk5⟩
  refine C.c233.re (by conv=>lhs;reduce) ?_
  simp(maxDischargeDepth:=9)only[auX,bq,reduceCtorEq,zA,aZ,Nat.reduceAnd,hsc,hX,hl_g g0,hl_g g4,hl_g hq0,hl_g hq4,p0,p4,L4,z0j c4,z1j,eq_true hpe,z0j c5,hs5,eq_true hz]
theorem k0i{B H:AHeap}{F:Pos}{nm us:List Nat}(h:PHas B F nm us)(kb:Keep B.nx.toNat B H){q:Pos}(hq:B.nx.toNat<=q.toNat)(hq2:q.toNat<H.nx.toNat){at' ct:Nat}(hg:PT.get q H.t=some (.cells (RdC F nm at' ct) false false))(ha:at'<=100000000)(hc:ct<=100000000) :
  ∃ r H',z0f E 176 [.ptr q 0] H r H'/\NxR F nm H.nx.toNat q at' ct (us.drop at') r H'/\But q H H':=by
 obtain⟨r,H1,c1,D,K1⟩:=y7v C (h.keep kb lr) hq2 hg ha
 have n1:=K1.nx
 have hbn:=kb.nx
 rcases D with⟨d1,rfl,g1⟩ | ⟨k,p,w,d1,rfl,B1,g1⟩
 .have k2:Keep H1.nx.toNat H1 (H1.new (.cells [.int .i64 (.ofNat 0),.snil] false false)).2:=z0d
  have g2:PT.get q (H1.new (.cells [.int .i64 (.ofNat 0),.snil] false false)).2.t=some (.cells (RdC F nm at' ct) false false):=by rw[k2.get _ (by omega)];exact g1
  have st2:=z0z g2 (o:=4) (vs:=[.bool true]) rfl rfl
  refine⟨_,(H1.new (.cells [.int .i64 (.ofNat 0),.snil] false false)).2.upd q (.cells [.ptr F 0,.str nm,.int .i64 (.ofNat at'),.int .i64 (.ofNat ct),.bool true] false false),?_,.inr (.inr ⟨fun p e=>by rw[d1]at e;(cases e),fun p e=>by rw[d1]at e;(cases e),rfl⟩),(K1.trans k2.but).upd⟩
  refine C.c176.re (by conv=>lhs;reduce) ?_
  simp(maxDischargeDepth:=9)only[auX,reduceCtorEq,Nat.reduceAdd,zA,hl_g hg,z0c c1,st2]
 .have bs:=B1.by.sc
  have k2:Keep H1.nx.toNat H1 (H1.new (.cells [.int .i64 (.ofNat k),w] false false)).2:=z0d
  have g2:PT.get q (H1.new (.cells [.int .i64 (.ofNat k),w] false false)).2.t=some (.cells (RdC F nm (at'+(12+p.length)) ct) false false):=by rw[k2.get _ (by omega)];exact g1
  have x2:PT.get H1.nx (H1.new (.cells [.int .i64 (.ofNat k),w] false false)).2.t=some (.cells [.int .i64 (.ofNat k),w] false false):=z0i
  have hne:q≠H1.nx:=fun e=>by rw[e]at hq2;omega
  have hp:=(z1y d1).2.1
  have bl:∀ z,blk w z->z≠q:=fun z hz e=>by have:=B1.1.2 z hz;rw[e]at this;omega
  by_cases hk:k=2
  .subst hk
   have st2:=z0z g2 (o:=3) (vs:=[.int .i64 (.ofNat (ct+1))]) rfl rfl
   have y2:PT.get H1.nx ((H1.new (.cells [.int .i64 (.ofNat 2),w] false false)).2.upd q (.cells (RdC F nm (at'+(12+p.length)) (ct+1)) false false)).t=some (.cells [.int .i64 (.ofNat 2),w] false false):=by rw[z0a hne];exact x2
   refine⟨_,(H1.new (.cells [.int .i64 (.ofNat 2),w] false false)).2.upd q (.cells (RdC F nm (at'+(12+p.length)) (ct+1)) false false),?_,.inl ⟨p,w,d1,rfl,(B1.keep k2 lr).other (fun z hz=>z0a (fun e=>bl z hz e.symm)) lr,z0q⟩,(K1.trans k2.but).upd⟩
   refine C.c176.re (by conv=>lhs;reduce) ?_
   simp(maxDischargeDepth:=9)only[auX,bq,Nat.reduceAdd,zA,aZ,hl_g hg,z0c c1,hl_g g2,bs,hl_g x2,st2,hl_g y2,z0o (i:=ct) (k:=1) (by omega)]
  .have st2:=z0z g2 (o:=4) (vs:=[.bool true]) rfl rfl
   obtain⟨H2,hH2⟩ :∃ H2,H2=(H1.new (.cells [.int .i64 (.ofNat k),w] false false)).2:=⟨_,rfl⟩
   rw[<-hH2]at st2 k2 x2 g2
   obtain⟨H3,hH3⟩ :∃ H3,H3=H2.upd q (.cells [.ptr F 0,.str nm,.int .i64 (.ofNat (at'+(12+p.length))),.int .i64 (.ofNat ct),.bool true] false false):=⟨_,rfl⟩
   have q3:PT.get q H3.t=some (.cells [.ptr F 0,.str nm,.int .i64 (.ofNat (at'+(12+p.length))),.int .i64 (.ofNat ct),.bool true] false false):=by rw[hH3];exact z0q
   have x3:PT.get H1.nx H3.t=some (.cells [.int .i64 (.ofNat k),w] false false):=by rw[hH3,z0a hne];exact x2
   have b3:=((K1.trans k2.but).upd (x:=.cells [.ptr F 0,.str nm,.int .i64 (.ofNat (at'+(12+p.length))),.int .i64 (.ofNat ct),.bool true] false false))
   rw[<-hH3]at b3
   have st3:z05 H2 q 4 [.bool true]=some H3:=by rw[hH3];exact st2
   have B3:By H3 w p:=by rw[hH3];exact((B1.keep k2 lr).other (fun z hz=>z0a (fun e=>bl z hz e.symm)) lr).by
   obtain⟨H4,c4,K4⟩:=k1k C (h.keep (b3.keep kb hq) lr) (q:=q) (Nat.lt_of_lt_of_le hq2 b3.nx) q3 (by omega) (by omega) (k:=k) B3
   have n3:=b3.nx
   have q4:PT.get q H4.t=some (.cells [.ptr F 0,.str nm,.int .i64 (.ofNat (at'+(12+p.length))),.int .i64 (.ofNat ct),.bool true] false false):=by rw[K4.get _ (by omega)];exact q3
   have hu:=(z1y d1).2.2.2.1
   rw[List.length_drop]at hu
   refine⟨.tup [.snil,.bool false,.int .i64 (.ofNat (if k=3/\p=b4 ct/\us.length<=at'+(12+p.length)then 0 else 90))],H4,?_,?_,b3.trans K4.but⟩
   rotate_left
   .by_cases hc:k=3/\p=b4 ct/\us.length<=at'+(12+p.length)
    .rw[if_pos hc]
     obtain⟨rfl,h2,h3⟩:=hc
     exact .inr (.inl ⟨p,d1,h2,by rw[List.length_drop];omega,rfl⟩)
    .rw[if_neg hc]
     exact .inr (.inr ⟨fun p e=>by rw[d1]at e;(cases e);exact hk rfl,fun p' e hh=>by rw[d1]at e;(cases e);exact hc ⟨rfl,hh.1,by have:=hh.2;rw[List.length_drop]at this;omega⟩,rfl⟩)
   subst hH2
   refine C.c176.re (by conv=>lhs;reduce) ?_
   simp(maxDischargeDepth:=9)only[auX,bq,Nat.reduceAdd,zA,aZ,hl_g hg,z0c c1,bs,hl_g x2,st3,hn_g x3,z0c c4,hk]
end
end Go.Am
