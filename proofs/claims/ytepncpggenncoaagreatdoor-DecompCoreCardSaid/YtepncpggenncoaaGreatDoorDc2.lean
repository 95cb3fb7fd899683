import Derived.Test.YtepncpggenncoaaGreatDoorProg
import Derived.Test.YtepncpggenncoaaGreatDoorAm15
import Derived.Test.YtepncpggenncoaaGreatDoorDc1
import Derived.Test.YtepncpggenncoaaGreatDoorAm17
import Derived.Test.YtepncpggenncoaaGreatDoorAm14
import Derived.KernelRfl
set_option linter.unusedSimpArgs false
set_option linter.unusedVariables false
set_option maxRecDepth 20000
set_option maxHeartbeats 8000000
section
namespace Go.Am
open Go Go.Proofs
noncomputable def z1m:Tys:=⟨y3p Tryz.prog.types.toList 0 .l,10,[402,86]⟩
noncomputable def z0g(f:Func) :AFun:=match z46 z1m f with
 | some a=>a
 | none=>⟨0,.bad,[]⟩
theorem Code.re{E:Env}{f:FuncId}{fi:AFun}{n:Nat}{b:ACode}{rs:List (Pos×Option Nat)}(C:Code E f fi)(hc:fi=⟨n,b,rs⟩){H:AHeap}{args:List AVal}{w:AVal}{H2:AHeap}(h:WP E none b ⟨lay args .h .l,[]⟩ H (j6c rs fun v H'=>v=w/\H'=H2))(ha:Nat.ble args.length n=true:=by rfl)(h2:Nat.ble args.length 100=true:=by rfl) :z0f E f args H w H2:=by
 subst hc
 exact C.e h (Nat.le_of_ble_eq_true ha) (Nat.le_of_ble_eq_true h2)
theorem Code.rr{E:Env}{f:FuncId}{fi:AFun}{n:Nat}{b:ACode}{rs:List (Pos×Option Nat)}(C:Code E f fi)(hc:fi=⟨n,b,rs⟩){H:AHeap}{args:List AVal}{R:AVal->AHeap->Prop}(h:WP E none b ⟨lay args .h .l,[]⟩ H (j6c rs R))(ha:Nat.ble args.length n=true:=by rfl)(h2:Nat.ble args.length 100=true:=by rfl) :∃ v H',z0f E f args H v H'/\R v H':=by
 subst hc
 exact C.r h (Nat.le_of_ble_eq_true ha) (Nat.le_of_ble_eq_true h2)
structure Ck (E:Env) :Prop where
 c3:Code E 3 (z0g Tryz.f3)
 c5:Code E 5 (z0g Tryz.f5)
 c6:Code E 6 (z0g Tryz.f6)
 c7:Code E 7 (z0g Tryz.f7)
 c8:Code E 8 (z0g Tryz.f8)
 c9:Code E 9 (z0g Tryz.f9)
 c10:Code E 10 (z0g Tryz.f10)
 c11:Code E 11 (z0g Tryz.f11)
 c12:Code E 12 (z0g Tryz.f12)
 c15:Code E 15 (z0g Tryz.f15)
 c16:Code E 16 (z0g Tryz.f16)
 c18:Code E 18 (z0g Tryz.f18)
 c21:Code E 21 (z0g Tryz.f21)
 c22:Code E 22 (z0g Tryz.f22)
 c23:Code E 23 (z0g Tryz.f23)
 c24:Code E 24 (z0g Tryz.f24)
 c25:Code E 25 (z0g Tryz.f25)
 c26:Code E 26 (z0g Tryz.f26)
 c27:Code E 27 (z0g Tryz.f27)
 c28:Code E 28 (z0g Tryz.f28)
 c29:Code E 29 (z0g Tryz.f29)
 c30:Code E 30 (z0g Tryz.f30)
 c31:Code E 31 (z0g Tryz.f31)
 c32:Code E 32 (z0g Tryz.f32)
 c33:Code E 33 (z0g Tryz.f33)
 c34:Code E 34 (z0g Tryz.f34)
 c35:Code E 35 (z0g Tryz.f35)
 c36:Code E 36 (z0g Tryz.f36)
 c38:Code E 38 (z0g Tryz.f38)
 c39:Code E 39 (z0g Tryz.f39)
 c40:Code E 40 (z0g Tryz.f40)
 c41:Code E 41 (z0g Tryz.f41)
 c42:Code E 42 (z0g Tryz.f42)
 c43:Code E 43 (z0g Tryz.f43)
 c44:Code E 44 (z0g Tryz.f44)
 c46:Code E 46 (z0g Tryz.f46)
 c48:Code E 48 (z0g Tryz.f48)
 c49:Code E 49 (z0g Tryz.f49)
 c50:Code E 50 (z0g Tryz.f50)
 c51:Code E 51 (z0g Tryz.f51)
 c52:Code E 52 (z0g Tryz.f52)
 c53:Code E 53 (z0g Tryz.f53)
 c55:Code E 55 (z0g Tryz.f55)
 c56:Code E 56 (z0g Tryz.f56)
 c57:Code E 57 (z0g Tryz.f57)
 c58:Code E 58 (z0g Tryz.f58)
 c59:Code E 59 (z0g Tryz.f59)
 c60:Code E 60 (z0g Tryz.f60)
 c61:Code E 61 (z0g Tryz.f61)
 c62:Code E 62 (z0g Tryz.f62)
 c63:Code E 63 (z0g Tryz.f63)
 c66:Code E 66 (z0g Tryz.f66)
 c67:Code E 67 (z0g Tryz.f67)
 c71:Code E 71 (z0g Tryz.f71)
 c72:Code E 72 (z0g Tryz.f72)
 c73:Code E 73 (z0g Tryz.f73)
 c74:Code E 74 (z0g Tryz.f74)
 c75:Code E 75 (z0g Tryz.f75)
 c76:Code E 76 (z0g Tryz.f76)
 c77:Code E 77 (z0g Tryz.f77)
 c78:Code E 78 (z0g Tryz.f78)
 c79:Code E 79 (z0g Tryz.f79)
 c80:Code E 80 (z0g Tryz.f80)
 c82:Code E 82 (z0g Tryz.f82)
 c83:Code E 83 (z0g Tryz.f83)
 c84:Code E 84 (z0g Tryz.f84)
 c85:Code E 85 (z0g Tryz.f85)
 c86:Code E 86 (z0g Tryz.f86)
 c90:Code E 90 (z0g Tryz.f90)
 c91:Code E 91 (z0g Tryz.f91)
 c92:Code E 92 (z0g Tryz.f92)
 c93:Code E 93 (z0g Tryz.f93)
 c94:Code E 94 (z0g Tryz.f94)
 c95:Code E 95 (z0g Tryz.f95)
 c96:Code E 96 (z0g Tryz.f96)
 c97:Code E 97 (z0g Tryz.f97)
 c101:Code E 101 (z0g Tryz.f101)
 c102:Code E 102 (z0g Tryz.f102)
 c103:Code E 103 (z0g Tryz.f103)
 c111:Code E 111 (z0g Tryz.f111)
 c112:Code E 112 (z0g Tryz.f112)
 c113:Code E 113 (z0g Tryz.f113)
 c114:Code E 114 (z0g Tryz.f114)
 c115:Code E 115 (z0g Tryz.f115)
 c116:Code E 116 (z0g Tryz.f116)
 c118:Code E 118 (z0g Tryz.f118)
 c119:Code E 119 (z0g Tryz.f119)
 c120:Code E 120 (z0g Tryz.f120)
 c121:Code E 121 (z0g Tryz.f121)
 c122:Code E 122 (z0g Tryz.f122)
 c123:Code E 123 (z0g Tryz.f123)
 c124:Code E 124 (z0g Tryz.f124)
 c125:Code E 125 (z0g Tryz.f125)
 c126:Code E 126 (z0g Tryz.f126)
 c128:Code E 128 (z0g Tryz.f128)
 c134:Code E 134 (z0g Tryz.f134)
 c138:Code E 138 (z0g Tryz.f138)
 c140:Code E 140 (z0g Tryz.f140)
 c141:Code E 141 (z0g Tryz.f141)
 c143:Code E 143 (z0g Tryz.f143)
 c144:Code E 144 (z0g Tryz.f144)
 c145:Code E 145 (z0g Tryz.f145)
 c146:Code E 146 (z0g Tryz.f146)
 c148:Code E 148 (z0g Tryz.f148)
 c149:Code E 149 (z0g Tryz.f149)
 c150:Code E 150 (z0g Tryz.f150)
 c156:Code E 156 (z0g Tryz.f156)
 c157:Code E 157 (z0g Tryz.f157)
 c158:Code E 158 (z0g Tryz.f158)
 c159:Code E 159 (z0g Tryz.f159)
 c160:Code E 160 (z0g Tryz.f160)
 c169:Code E 169 (z0g Tryz.f169)
 c172:Code E 172 (z0g Tryz.f172)
 c173:Code E 173 (z0g Tryz.f173)
 c174:Code E 174 (z0g Tryz.f174)
 c175:Code E 175 (z0g Tryz.f175)
 c176:Code E 176 (z0g Tryz.f176)
 c177:Code E 177 (z0g Tryz.f177)
 c178:Code E 178 (z0g Tryz.f178)
 c179:Code E 179 (z0g Tryz.f179)
 c196:Code E 196 (z0g Tryz.f196)
 c197:Code E 197 (z0g Tryz.f197)
 c198:Code E 198 (z0g Tryz.f198)
 c203:Code E 203 (z0g Tryz.f203)
 c205:Code E 205 (z0g Tryz.f205)
 c206:Code E 206 (z0g Tryz.f206)
 c207:Code E 207 (z0g Tryz.f207)
 c208:Code E 208 (z0g Tryz.f208)
 c209:Code E 209 (z0g Tryz.f209)
 c210:Code E 210 (z0g Tryz.f210)
 c223:Code E 223 (z0g Tryz.f223)
 c224:Code E 224 (z0g Tryz.f224)
 c225:Code E 225 (z0g Tryz.f225)
 c226:Code E 226 (z0g Tryz.f226)
 c227:Code E 227 (z0g Tryz.f227)
 c232:Code E 232 (z0g Tryz.f232)
 c233:Code E 233 (z0g Tryz.f233)
 c234:Code E 234 (z0g Tryz.f234)
 c235:Code E 235 (z0g Tryz.f235)
 c263:Code E 263 (z0g Tryz.f263)
 c264:Code E 264 (z0g Tryz.f264)
 c265:Code E 265 (z0g Tryz.f265)
 c266:Code E 266 (z0g Tryz.f266)
 c267:Code E 267 (z0g Tryz.f267)
 c268:Code E 268 (z0g Tryz.f268)
 c269:Code E 269 (z0g Tryz.f269)
 c270:Code E 270 (z0g Tryz.f270)
 c271:Code E 271 (z0g Tryz.f271)
 c275:Code E 275 (z0g Tryz.f275)
 c276:Code E 276 (z0g Tryz.f276)
 c288:Code E 288 (z0g Tryz.f288)
 c289:Code E 289 (z0g Tryz.f289)
 c301:Code E 301 (z0g Tryz.f301)
 c302:Code E 302 (z0g Tryz.f302)
 c303:Code E 303 (z0g Tryz.f303)
 c304:Code E 304 (z0g Tryz.f304)
 c305:Code E 305 (z0g Tryz.f305)
 c320:Code E 320 (z0g Tryz.f320)
 c324:Code E 324 (z0g Tryz.f324)
 c325:Code E 325 (z0g Tryz.f325)
 c335:Code E 335 (z0g Tryz.f335)
 c340:Code E 340 (z0g Tryz.f340)
 c347:Code E 347 (z0g Tryz.f347)
 c348:Code E 348 (z0g Tryz.f348)
 c355:Code E 355 (z0g Tryz.f355)
 c358:Code E 358 (z0g Tryz.f358)
 c360:Code E 360 (z0g Tryz.f360)
 c361:Code E 361 (z0g Tryz.f361)
 c364:Code E 364 (z0g Tryz.f364)
 c365:Code E 365 (z0g Tryz.f365)
 c367:Code E 367 (z0g Tryz.f367)
 c379:Code E 379 (z0g Tryz.f379)
structure CkS (E:Env) :Prop extends Ck E where
 s54:PT.get (Pos.ofNat 54) E.sums=some j61
 s81:PT.get (Pos.ofNat 81) E.sums=some z5p
 s117:PT.get (Pos.ofNat 117) E.sums=some (z5o 172)
 s139:PT.get (Pos.ofNat 139) E.sums=some j60
 s323:PT.get (Pos.ofNat 323) E.sums=some (sCrc (Pos.ofNat 4))
theorem z0f.sum{E:Env}{f:FuncId}{s:List AVal->AHeap->ARes}(h:PT.get (Pos.ofNat f) E.sums=some s){args:List AVal}{H H':AHeap}{v:AVal}(hs:s args H=some (v,H'))(hf:Nat.blt f 2147483648=true:=by rfl) :z0f E f args H v H':=⟨0,fun n _=>by
 unfold z9p
 rw[hf,h]
 exact hs⟩
end Go.Am
end
section
namespace Go.Am
open Go
def Rd(k:Nat)(H:AHeap)(v:AVal)(n:Nat)(cs:List AVal) :Prop :=
 cs.length=n*k/\((v=.snil/\n=0)\/∃ b o c z,v=.sl b o n c z/\z0t H b o (n*k)=some cs/\(z=0\/z=k)/\n<=c/\b.toNat<H.nx.toNat)
def GS(k:Nat)(H:AHeap)(v:AVal)(n:Nat)(cs:List AVal) :Prop :=
 cs.length=n*k/\((v=.snil/\n=0)\/∃ b z op,v=.sl b 0 n n z/\PT.get b H.t=some (.cells cs op false)/\(z=0\/z=k)/\b.toNat<H.nx.toNat)
section
variable{k:Nat}{H H':AHeap}{v:AVal}{n:Nat}{cs:List AVal}
theorem GS.rd(h:GS k H v n cs) :Rd k H v n cs:=by
 obtain⟨h0,h | ⟨b,z,op,e,hg,hz,hb⟩⟩:=h
 .exact⟨h0,.inl h⟩
 .refine⟨h0,.inr ⟨b,0,n,z,e,?_,hz,lr,hb⟩⟩
  unfold z0t
  rw[hg]
  simp only
  rw[z27 (by omega)]
  simp[<-h0]
theorem GS.nil:GS k H .snil 0 []:=⟨by simp,.inl ⟨rfl,rfl⟩⟩
theorem Rd.len(h:Rd k H v n cs){H2:AHeap} :fLen H2 1 v=some (.int .i64 (.ofNat n)):=by
 obtain⟨_,⟨rfl,rfl⟩ | ⟨b,o,c,z,rfl,_⟩⟩:=h<;>rfl
theorem Rd.blk_lt(h:Rd k H v n cs)(p:Pos)(hp:blk v p) :p.toNat<H.nx.toNat:=by
 obtain⟨_,⟨rfl,rfl⟩ | ⟨b,o,c,z,rfl,_,_,_,hb⟩⟩:=h
 .cases hp
 .cases hp;exact hb
theorem Rd.src(h:Rd k H v n cs) :z1e H k v=some (n,cs):=by
 obtain⟨h0,⟨rfl,rfl⟩ | ⟨b,o,c,z,rfl,hl,_⟩⟩:=h
 .have:cs=[]:=by simpa using h0
  rw[this];rfl
 .unfold z1e
  simp only[nmul,hl]
theorem z2e{b:Pos}{o m:Nat}{l:List AVal}(h:z0t H b o m=some l) :l.length=m/\(∀ i j,i+j<=m->z0t H b (o+i) j=some ((l.drop i).take j))/\∀ i (hi:i<l.length),z04 H b (o+i)=some l[i]:=by
 unfold z0t at h
 split at h
 .rename_i L _ _ hg
  obtain⟨h1,h2⟩:=z9d h
  have hlen:l.length=m:=by rw[h1];simp;omega
  refine⟨hlen,fun i j hij=>?_,fun i hi=>?_⟩
  .rw[z2x hg,z27 (by omega)]
   have:(l.drop i).take j=(L.drop (o+i)).take j:=by
    rw[h1,List.drop_take,List.take_take,List.drop_drop,Nat.min_eq_left (by omega)]
   rw[this]
  .rw[z9i hg,z5x]
   have:l[i]? = L[o+i]?:=by rw[h1,List.getElem?_take_of_lt (by omega),List.getElem?_drop]
   rw[<-this,List.getElem?_eq_getElem hi]
 .cases h
theorem Rd.at(h:Rd k H v n cs){i:Nat}(hi:i<n) :∃ b o,z2t k v (.int .i64 (.ofNat i))=some (.ptr b o)/\z0t H b o k=some ((cs.drop (i*k)).take k)/\∀ f (hf:f<k) (hc:i*k+f<cs.length),z04 H b (o+f)=some cs[i*k+f]:=by
 obtain⟨h0,⟨rfl,rfl⟩ | ⟨b,o,c,z,rfl,hl,_⟩⟩:=h
 .omega
 .obtain⟨h1,h2,h3⟩:=z2e hl
  have hk:i*k+k<=n*k:=by
   have:=Nat.mul_le_mul_right k (show i+1<=n from hi)
   rw[Nat.add_mul,Nat.one_mul]at this;exact this
  refine⟨b,o+i*k,?_,h2 _ _ hk,fun f hf hc=>?_⟩
  .show(match Nat.blt i n with | true=>_ | false=>_)=_
   rw[y41 hi]
   rfl
  .rw[Nat.add_assoc];exact h3 _ hc
theorem Rd.at1(h:Rd 1 H v n cs){i:Nat}{x:AVal}(hx:cs[i]? = some x) :∃ b o,z2t 1 v (.int .i64 (.ofNat i))=some (.ptr b o)/\z04 H b o=some x:=by
 have hi:i<cs.length:=by
  rcases Nat.lt_or_ge i cs.length with h | h
  .exact h
  .rw[List.getElem?_eq_none h]at hx;cases hx
 obtain⟨b,o,e1,_,e2⟩:=h.at (i:=i) (by have:=h.1;omega)
 have e2:=e2 0 (by omega) (by omega)
 refine⟨b,o,e1,?_⟩
 rw[Nat.add_zero]at e2
 rw[e2,<-hx,<-List.getElem?_eq_getElem]
 congr 1
 omega
theorem Rd.keep{m:Nat}(h:Rd k H v n cs)(kp:Keep m H H')(hm:H.nx.toNat<=m) :Rd k H' v n cs:=by
 obtain⟨h0,h | ⟨b,o,c,z,e,hl,hz,hc,hb⟩⟩:=h
 .exact⟨h0,.inl h⟩
 .exact⟨h0,.inr ⟨b,o,c,z,e,by rw[y8w kp (by omega)];exact hl,hz,hc,Nat.lt_of_lt_of_le hb kp.nx⟩⟩
theorem Rd.other(h:Rd k H v n cs)(hg:∀ p,blk v p->PT.get p H'.t=PT.get p H.t)(hn:H.nx.toNat<=H'.nx.toNat) :Rd k H' v n cs:=by
 obtain⟨h0,h | ⟨b,o,c,z,rfl,hl,hz,hc,hb⟩⟩:=h
 .exact⟨h0,.inl h⟩
 .exact⟨h0,.inr ⟨b,o,c,z,rfl,by unfold z0t at hl ⊢;rw[hg b rfl];exact hl,hz,hc,Nat.lt_of_lt_of_le hb hn⟩⟩
theorem GS.other(h:GS k H v n cs)(hg:∀ p,blk v p->PT.get p H'.t=PT.get p H.t)(hn:H.nx.toNat<=H'.nx.toNat) :GS k H' v n cs:=by
 obtain⟨h0,h | ⟨b,z,op,rfl,hl,hz,hb⟩⟩:=h
 .exact⟨h0,.inl h⟩
 .exact⟨h0,.inr ⟨b,z,op,rfl,by rw[hg b rfl];exact hl,hz,Nat.lt_of_lt_of_le hb hn⟩⟩
theorem GS.keep{m:Nat}(h:GS k H v n cs)(kp:Keep m H H')(hm:H.nx.toNat<=m) :GS k H' v n cs:=h.other (fun p hp=>kp.get p (by have:=h.rd.blk_lt p hp;omega)) kp.nx
theorem Rd.scal(h:Rd k H v n cs) :z1g v=true:=by
 obtain⟨_,⟨rfl,rfl⟩ | ⟨b,o,c,z,rfl,_⟩⟩:=h<;>rfl
theorem Rd.same(h:Rd k H v n cs) :Go.Am.same v v=true:=by
 obtain⟨_,⟨rfl,rfl⟩ | ⟨b,o,c,z,rfl,_⟩⟩:=h
 .rfl
 .exact q56
theorem Rd.reads(h:Rd 1 H v n cs) :z4s H.nx.toNat H v cs:=by
 obtain⟨h0,⟨rfl,rfl⟩ | ⟨b,o,c,z,rfl,hl,hz,hc,hb⟩⟩:=h
 .exact .inl ⟨rfl,by simpa using h0⟩
 .have:n=cs.length:=by omega
  subst this
  exact .inr ⟨b,o,c,z,rfl,by rw[Nat.mul_one]at hl;exact hl,hb,hz,hc⟩
theorem z4s.rd{N:Nat}(h:z4s N H v cs)(hN:N<=H.nx.toNat) :Rd 1 H v cs.length cs:=by
 rcases h with⟨rfl,rfl⟩ | ⟨b,o,c,z,rfl,hl,hb,hz,hc⟩
 .exact⟨by simp,.inl ⟨rfl,rfl⟩⟩
 .exact⟨by simp,.inr ⟨b,o,c,z,rfl,by rw[Nat.mul_one];exact hl,hz,hc,by omega⟩⟩
theorem j4f(hk:0<k){by':Nat}{x:AVal}{m:Nat}{c:List AVal}(h:GS k H v n cs)(hx:z1e H k x=some (m,c))(hm:0<m)(hc:c.length=m*k)(hs:z1l c=true)(hb:(n+m)*2*by'<=281474976710656) :
  ∃ H',z09 H k by' v x=some (.sl H.nx 0 (n+m) (n+m) k,H')/\PT.get H.nx H'.t=some (.cells (cs++c) true false)/\H'.nx=H.nx.succ/\(∀ p:Pos,p.toNat<H.nx.toNat->¬ blk v p->PT.get p H'.t=PT.get p H.t):=by
 obtain⟨h0,⟨rfl,rfl⟩ | ⟨b,z,op,rfl,hl,hz,hlt⟩⟩:=h
 .have:cs=[]:=by simpa using h0
  subst this
  obtain⟨q,rfl⟩ :∃ q,m=q+1:=⟨m-1,by omega⟩
  refine⟨(H.new (.cells c true false)).2,?_,z0i,rfl,fun p hp _=>z19 hp⟩
  unfold z09
  simp only[hx]
  have:Nat.ble (Nat.mul (Nat.succ q) by') 281474976710656=true:=z4u (by
   rw[nmul]
   have e:(q+1)*by'<=(0+(q+1))*2*by':=Nat.mul_le_mul_right _ (by omega)
   exact Nat.le_trans e hb)
  rw[this]
  simp only[zA]
  rfl
 .have e1:Nat.ble (Nat.add n m) n=false:=k3d (by rw[nadd];omega)
  have e2:z0t H b 0 (Nat.mul n k)=some cs:=by
   rw[z2x hl,nmul,z27 (by omega)]
   simp[<-h0]
  have e3:Nat.ble (Nat.mul (Nat.mul (Nat.add n m) 2) by') 281474976710656=true:=z4u hb
  rcases hz with rfl | rfl
  .refine⟨(H.new (.cells (cs++c) true false)).2,?_,z0i,rfl,fun p hp _=>z19 hp⟩
   unfold z09
   simp only[hx,e1,e2,e3]
   rfl
  .obtain⟨q,rfl⟩ :∃ q,z=q+1:=⟨z-1,by omega⟩
   refine⟨((H.kill b).new (.cells (cs++c) true false)).2,?_,z0i (H:=H.kill b),rfl,fun p hp hnb=>?_⟩
   .unfold z09
    simp only[hx,e1,e2,e3,hl,hs,j20]
    rfl
   .rw[z19 (H:=H.kill b) hp]
    exact PT.get_set_other _ _ _ _ (fun e=>hnb (by subst e;rfl))
def GO(k N:Nat)(H:AHeap)(v:AVal)(n:Nat)(cs:List AVal) :Prop:=GS k H v n cs/\∀ p,blk v p->N<=p.toNat
theorem GO.nil{N:Nat} :GO k N H .snil 0 []:=⟨GS.nil,fun _ h=>by cases h⟩
theorem q5r(hk:0<k){by' N:Nat}{x:AVal}{m:Nat}{c:List AVal}(h:GO k N H v n cs)(hN:N<=H.nx.toNat)(hx:z1e H k x=some (m,c))(hm:0<m)(hc:c.length=m*k)(hs:z1l c=true)(hb:(n+m)*2*by'<=281474976710656) :
  ∃ w H',z09 H k by' v x=some (w,H')/\GO k N H' w (n+m) (cs++c)/\Keep N H H':=by
 obtain⟨H',e1,e2,e3,e4⟩:=j4f hk h.1 hx hm hc hs hb
 have hnx:H'.nx.toNat=H.nx.toNat+1:=by rw[e3,Pos.toNat_succ]
 refine⟨_,H',e1,⟨⟨by rw[List.length_append,h.1.1,hc,Nat.add_mul],.inr ⟨H.nx,k,true,rfl,e2,.inr rfl,by omega⟩⟩,fun p hp=>by cases hp;exact hN⟩,by omega,fun p hp=>e4 p (by omega) (fun hb=>by have:=h.2 p hb;omega)⟩
theorem z9y{row:List AVal}(hr:row.length=k) :z1e (H.new (.cells row false false)).2 k (.sl H.nx 0 1 1 0)=some (1,row):=by
 unfold z1e
 have:z0t (H.new (.cells row false false)).2 H.nx 0 (Nat.mul 1 k)=some row:=by
  rw[z2x z0i,nmul,z27 (by omega)]
  simp[<-hr]
 simp only[this]
theorem z4q(hk:0<k){by' N:Nat}{row:List AVal}(h:GO k N H v n cs)(hN:N<=H.nx.toNat)(hr:row.length=k)(hs:z1l row=true)(hb:(n+1)*2*by'<=281474976710656) :
  ∃ w H',z09 (H.new (.cells row false false)).2 k by' v (.sl H.nx 0 1 1 0)=some (w,H')/\GO k N H' w (n+1) (cs++row)/\Keep N H H':=by
 have k1:Keep H.nx.toNat H (H.new (.cells row false false)).2:=z0d
 obtain⟨w,H',e1,e2,e3⟩:=q5r hk (by':=by') ⟨h.1.keep k1 lr,h.2⟩ (Nat.le_trans hN k1.nx) (z9y hr) (by omega) (by omega) hs hb
 exact⟨w,H',e1,e2,(k1.mono hN).trans e3⟩
theorem q5q(hk:0<k){by' N:Nat}{x:AVal}{m:Nat}{c:List AVal}(h:GO k N H v n cs)(hN:N<=H.nx.toNat)(hx:z1e H k x=some (m,c))(hc:c.length=m*k)(hs:z1l c=true)(hb:(n+m)*2*by'<=281474976710656) :
  ∃ w H',z09 H k by' v x=some (w,H')/\GO k N H' w (n+m) (cs++c)/\Keep N H H':=by
 rcases Nat.eq_zero_or_pos m with rfl | hm
 .have hc0:c=[]:=by simpa using hc
  subst hc0
  obtain⟨h0,⟨rfl,rfl⟩ | ⟨b,z,op,rfl,hl,hz,hlt⟩⟩:=h.1
  .refine⟨.snil,H,?_,⟨⟨by simpa using h0,.inl ⟨rfl,rfl⟩⟩,fun _ h=>by cases h⟩,Keep.refl _ _⟩
   unfold z09
   simp only[hx]
  .have hbN:=h.2 b rfl
   refine⟨_,H.upd b (.cells cs op false),?_,⟨⟨by simpa using h0,.inr ⟨b,z,op,rfl,by rw[List.append_nil];exact z0q,hz,hlt⟩⟩,fun p hp=>by cases hp;exact hbN⟩,z0s hbN⟩
   unfold z09
   simp only[hx,z4u (show Nat.add n 0<=n from lr)]
   rw[j7z,hl]
   have:lput cs (Nat.add 0 (Nat.mul n k)) []=some cs:=by
    rw[z36 _ _ _ (by rw[nadd,nmul];simp;omega)]
    simp
   simp only[stU,z1l,this]
   rfl
 .exact q5r hk h hN hx hm hc hs hb
theorem z3p:∀ us:List Nat,z1l (z0b us)=true
 | []=>rfl
 | _::us=>z3p us
theorem z1d:∀ us:List Nat,(z0b us).length=us.length
 | []=>rfl
 | _::us=>by simp[z0b,z1d us]
theorem z33:∀ us vs:List Nat,z0b (us++vs)=z0b us++z0b vs
 | [],_=>rfl
 | _::us,vs=>by simp[z0b,z33 us vs]
theorem y3h{by':Nat}{z x:AVal}{c:List AVal}(hx:z1e (H.new (.cells (repl [z] n) false false)).2 1 x=some (n,c))(hc:c.length=n)(hs:z1l c=true) :
  ∃ w H',z09 (H.new (.cells (repl [z] n) false false)).2 1 by' (.sl H.nx 0 0 n 0) x=some (w,H')/\GO 1 H.nx.toNat H' w n c/\Keep H.nx.toNat H H':=by
 have k1:Keep H.nx.toNat H (H.new (.cells (repl [z] n) false false)).2:=z0d
 refine⟨_,(H.new (.cells (repl [z] n) false false)).2.upd H.nx (.cells c false false),?_,⟨⟨by rw[hc,Nat.mul_one],.inr ⟨H.nx,0,false,rfl,z0q,.inl rfl,z0h⟩⟩,fun p hp=>by cases hp;exact lr⟩,k1.trans (z0s lr)⟩
 unfold z09
 have hl:∀ n:Nat,(repl [z] n).length=n:=fun n=>z2d z n
 have e:lput (repl [z] n) (Nat.add 0 (Nat.mul 0 1)) c=some c:=by
  rw[z36 _ _ _ (by rw[hl,hc];show 0+0*1+n<=n;omega)]
  show some (List.take (0+0*1) _++c++List.drop (0+0*1+c.length) _)=_
  rw[List.drop_eq_nil_of_le (by rw[hl,hc];omega)]
  simp
 simp only[hx,z4u (show Nat.add 0 n<=n from by rw[nadd];omega)]
 rw[j7z,z0i]
 simp only[stU,hs,e,nadd,zA]
theorem z2u(hk:0<k){by' N:Nat}{row:List AVal}(h:GO k N H v n cs)(hN:N<=H.nx.toNat)(hr:row.length=k)(hs:z1l row=true)(hb:(n+1)*2*by'<=281474976710656) :
  ∃ w H',z09 (H.new (.cells row false false)).2 k by' v (.sl H.nx 0 1 1 0)=some (w,H')/\GO k N H' w (n+1) (cs++row)/\Keep N H H'/\(∀ p:Pos,p.toNat<H.nx.toNat->¬ blk v p->PT.get p H'.t=PT.get p H.t)/\(∀ p,blk w p->H.nx.toNat<p.toNat)/\H.nx.toNat<=H'.nx.toNat:=by
 have k1:Keep H.nx.toNat H (H.new (.cells row false false)).2:=z0d
 have hlt:H.nx.toNat<(H.new (.cells row false false)).2.nx.toNat:=z0h
 obtain⟨H',e1,e2,e3,e4⟩:=j4f hk (by':=by') (h.1.keep k1 lr) (z9y hr) (by omega) (by omega) hs hb
 have hnx:H'.nx.toNat=(H.new (.cells row false false)).2.nx.toNat+1:=by rw[e3,Pos.toNat_succ]
 refine⟨_,H',e1,⟨⟨by rw[List.length_append,h.1.1,hr,Nat.add_mul,Nat.one_mul],.inr ⟨_,k,true,rfl,e2,.inr rfl,by omega⟩⟩,fun p hp=>by cases hp;omega⟩,⟨by omega,fun p hp=>?_⟩,fun p hp hb=>?_,fun p hp=>by cases hp;exact hlt,by omega⟩
 .rw[e4 p (by omega) (fun hb=>by have:=h.2 p hb;omega),k1.get p (by omega)]
 .rw[e4 p (by omega) hb,k1.get p hp]
theorem bo_n{t:PT AVal}{a b:Nat} :z08 t none a b=some a:=rfl
theorem bo_s{t:PT AVal}{a b d:Nat}{x:AOpnd}(hx:x.ev t=.int .i64 (.ofNat a))(h:a<=b) :z08 t (some x) d b=some a:=by simp only[z08,hx,z3j,z4u h]
theorem j6y(h:Rd 1 H v n cs){a b:Nat}(ha:a<=b)(hb:b<=n)(h0:0<n) :∃ w,Rd 1 H w (b-a) ((cs.drop a).take (b-a))/\(∀ p,blk w p->blk v p)/\(∀ {t:PT AVal} {x y:AOpnd},x.ev t=.int .i64 (.ofNat a)->y.ev t=.int .i64 (.ofNat b)->z0w t (.sl 1) v (some x) (some y) none=some w)/\(a=0->∀ {t:PT AVal} {y:AOpnd},y.ev t=.int .i64 (.ofNat b)->z0w t (.sl 1) v none (some y) none=some w)/\(b=n->∀ {t:PT AVal} {x:AOpnd},x.ev t=.int .i64 (.ofNat a)->z0w t (.sl 1) v (some x) none none=some w):=by
 obtain⟨hl,⟨rfl,rfl⟩ | ⟨p,o,c,z,rfl,hg,hz,hc,hlt⟩⟩:=h
 .omega
 obtain⟨s1,s2,_⟩:=z2e hg
 rw[Nat.mul_one]at s2 hl
 have hln:((cs.drop a).take (b-a)).length=(b-a)*1:=by simp;omega
 have e3:=s2 a (b-a) (by omega)
 have hmul:Nat.mul a 1=a:=Nat.mul_one a
 have hmul0:Nat.mul 0 1=0:=rfl
 rcases hz with rfl | rfl
 .by_cases hca:c=a
  .subst hca
   refine⟨.sl p o (b-c) (c-c) 0,⟨hln,.inr ⟨p,o,c-c,0,rfl,?_,.inl rfl,by omega,hlt⟩⟩,(fun q hq=>hq),?_,?_,?_⟩
   .obtain⟨_,s3,_⟩:=z2e hg
    have:=s3 0 0 (by omega)
    rw[show(b-c)*1=0 by omega,show(cs.drop c).take (b-c)=[]by simp;omega]
    simpa using this
   .intro t x y hx hy
    simp only[z0w,bo_s hx ha,bo_s hy (show b<=c by omega),bo_n,j20,nsub]
   .intro e t y hy;omega
   .intro e t x hx;subst e;simp only[z0w,bo_s hx ha,bo_n,j20,nsub]
  .refine⟨.sl p (o+a) (b-a) (c-a) 0,⟨hln,.inr ⟨p,o+a,c-a,0,rfl,by rw[Nat.mul_one];exact e3,.inl rfl,by omega,hlt⟩⟩,(fun q hq=>hq),?_,?_,?_⟩
   .intro t x y hx hy
    simp only[z0w,bo_s hx ha,bo_s hy (show b<=c by omega),bo_n,j0k hca,hmul,nadd,nsub]
   .intro e t y hy;subst e;simp only[z0w,bo_s hy (show b<=c by omega),bo_n,j0k hca,hmul0,nadd,nsub]
   .intro e t x hx;subst e;simp only[z0w,bo_s hx ha,bo_n,j0k hca,hmul,nadd,nsub]
 .refine⟨.sl p (o+a) (b-a) (c-a) 1,⟨hln,.inr ⟨p,o+a,c-a,1,rfl,by rw[Nat.mul_one];exact e3,.inr rfl,by omega,hlt⟩⟩,(fun q hq=>hq),?_,?_,?_⟩
  .intro t x y hx hy
   simp only[z0w,bo_s hx ha,bo_s hy (show b<=c by omega),bo_n,hmul,nadd,nsub]
  .intro e t y hy;subst e;simp only[z0w,bo_s hy (show b<=c by omega),bo_n,hmul0,nadd,nsub]
  .intro e t x hx;subst e;simp only[z0w,bo_s hx ha,bo_n,hmul,nadd,nsub]
theorem y06(h:Rd 1 H v n cs){b:Nat}(hb:b<=n) :∃ w,Rd 1 H w b (cs.take b)/\(∀ p,blk w p->blk v p)/\∀ {t:PT AVal} {y:AOpnd},y.ev t=.int .i64 (.ofNat b)->z0w t (.sl 1) v none (some y) none=some w:=by
 rcases Nat.eq_zero_or_pos n with rfl | h0
 .obtain rfl:b=0:=by omega
  obtain⟨hl,⟨rfl,_⟩ | ⟨p,o,c,z,rfl,hg,hz,hc,hlt⟩⟩:=h
  .exact⟨.snil,⟨by simp,.inl ⟨rfl,rfl⟩⟩,(fun q hq=>hq),fun hy=>by simp only[z0w,bo_s hy (Nat.le_refl 0),bo_n]⟩
  .have hcs:cs=[]:=by simpa using hl
   subst hcs
   rcases hz with rfl | rfl
   .refine⟨.sl p o 0 c 0,⟨by simp,.inr ⟨p,o,c,0,rfl,hg,.inl rfl,by omega,hlt⟩⟩,(fun q hq=>hq),fun hy=>?_⟩
    simp only[z0w,bo_s hy (Nat.zero_le c),bo_n]
    cases Nat.beq c 0<;>rfl
   .refine⟨.sl p o 0 c 1,⟨by simp,.inr ⟨p,o,c,1,rfl,hg,.inr rfl,by omega,hlt⟩⟩,(fun q hq=>hq),fun hy=>?_⟩
    simp only[z0w,bo_s hy (Nat.zero_le c),bo_n]
    rfl
 .obtain⟨w,h1,h2,_,h3,_⟩:=j6y h (a:=0) (Nat.zero_le b) hb h0
  exact⟨w,by simpa using h1,h2,h3 rfl⟩
theorem z9q:∀ (us:List Nat) (a:Nat),(z0b us).drop a=z0b (us.drop a)
 | us,0=>rfl
 | [],_+1=>rfl
 | _::us,a+1=>z9q us a
theorem z3b:∀ (us:List Nat) (a:Nat),(z0b us).take a=z0b (us.take a)
 | us,0=>rfl
 | [],_+1=>rfl
 | u::us,a+1=>by simp only[z0b,List.take_succ_cons,z3b us a]
theorem y4g(a b:Nat) :mmA false (.int .i64 (.ofNat a)) [.int .i64 (.ofNat b)]=some (.int .i64 (.ofNat (min a b))):=by
 show some (AVal.int .i64 (match Nat.blt b a with | true=>.ofNat b | false=>.ofNat a))=_
 rw[z9s]
 by_cases h:b<a
 .simp only[h,decide_true];rw[Nat.min_eq_right (by omega)]
 .simp only[h,decide_false];rw[Nat.min_eq_left (by omega)]
theorem k0r(a b:Nat) :mmA true (.int .i64 (.ofNat a)) [.int .i64 (.ofNat b)]=some (.int .i64 (.ofNat (max a b))):=by
 show some (AVal.int .i64 (match Nat.blt a b with | true=>.ofNat b | false=>.ofNat a))=_
 rw[z9s]
 by_cases h:a<b
 .simp only[h,decide_true];rw[Nat.max_eq_right (by omega)]
 .simp only[h,decide_false];rw[Nat.max_eq_left (by omega)]
end
def stB(z:BitVec 32) :BitVec 32:=(z <<< 1)^^^(if z.msb then 79764919#32 else 0#32)
def st4B(z:BitVec 32) :BitVec 32:=stB (stB (stB (stB z)))
theorem q54(a b:BitVec 32) :stB (a^^^b)=stB a^^^stB b:=by
 unfold stB
 rw[BitVec.shiftLeft_xor_distrib,BitVec.msb_xor]
 have e:∀ x y p:BitVec 32,(x^^^y)=(x^^^p)^^^(y^^^p):=fun x y p=>by
  rw[show(x^^^p)^^^(y^^^p)=(x^^^y)^^^(p^^^p)by ac_rfl,BitVec.xor_self,BitVec.xor_zero]
 cases a.msb<;>cases b.msb<;>simp only[Bool.xor_false,Bool.xor_true,Bool.not_true,Bool.not_false,if_true,if_false,Bool.false_eq_true,BitVec.xor_zero]
 .ac_rfl
 .ac_rfl
 .exact e _ _ _
theorem j4m(a b:BitVec 32) :st4B (a^^^b)=st4B a^^^st4B b:=by simp only[st4B,q54]
def tabZ:List Nat:=[0,79764919,159529838,222504665,319059676,398814059,445009330,507990021,638119352,583659535,797628118,726387553,890018660,835552979,1015980042,944750013]
def nibB(i:Nat) :BitVec 32:=BitVec.ofNat 32 (i*268435456)
theorem q64:∀ i,i<16->∀ j,j<16->(i^^^j)<16/\st4B (nibB i)^^^st4B (nibB j)=BitVec.ofNat 32 (tabZ.getD (i^^^j) 0):=by decide +kernel
theorem q55(x:BitVec 32) :st4B (x <<< 4 >>> 4)=x <<< 4:=by
 have e:∀ y:BitVec 32,y.getLsbD 31=false->stB y=y <<< 1:=fun y h=>by
  unfold stB
  rw[BitVec.msb_eq_getLsbD_last,h]
  simp
 unfold st4B
 rw[e (x <<< 4 >>> 4) (by simp),e (x <<< 4 >>> 4 <<< 1) (by simp),e (x <<< 4 >>> 4 <<< 1 <<< 1) (by simp),e (x <<< 4 >>> 4 <<< 1 <<< 1 <<< 1) (by simp)]
 apply BitVec.eq_of_getLsbD_eq
 intro i hi
 simp[BitVec.getLsbD_shiftLeft,BitVec.getLsbD_ushiftRight]
 by_cases h:i<4
 .simp[h]
 .have e1:decide (4+(i-4)<32)=true:=by simp;omega
  have e2:decide (4+(i-4)<4)=false:=by simp
  rw[e1,e2];simp
theorem q0p(x:BitVec 32) :x=nibB (x.toNat/268435456)^^^(x <<< 4 >>> 4):=by
 apply BitVec.eq_of_getLsbD_eq
 intro i hi
 have h1:nibB (x.toNat/268435456)=(x >>> 28) <<< 28:=by
  apply BitVec.eq_of_toNat_eq
  have:=x.isLt
  unfold nibB
  simp[Nat.shiftRight_eq_div_pow,Nat.shiftLeft_eq]
 rw[h1]
 simp
 by_cases h:i<28
 .simp[h];intro;omega
 .have:28+(i-28)=i:=by omega
  simp[h,this]
  have e1:decide (i<32)=true:=by simp;omega
  have e2:decide (4+i<32)=false:=by simp;omega
  rw[e1,e2];simp
theorem q1l(x:BitVec 32){n:Nat}(hn:n<16) :((x.toNat/268435456)^^^n)<16/\st4B (x^^^nibB n)=(x <<< 4)^^^BitVec.ofNat 32 (tabZ.getD ((x.toNat/268435456)^^^n) 0):=by
 have hx:x.toNat/268435456<16:=by have:=x.isLt;omega
 obtain⟨h1,h2⟩:=q64 _ hx _ hn
 refine⟨h1,?_⟩
 rw[<-h2,j4m]
 conv=>lhs;rw[q0p x]
 rw[j4m,q55]
 ac_rfl
def st1(r:Nat) :Nat:=if 2147483648<=r then Nat.mod (Nat.mod (Nat.xor (Nat.mod (r*2) 4294967296) 79764919) 4294967296) 4294967296 else Nat.mod (r*2) 4294967296
theorem y54{r:Nat}(h:r<4294967296) :st1 r=(stB (BitVec.ofNat 32 r)).toNat:=by
 have hm:(BitVec.ofNat 32 r).msb=decide (2147483648<=r):=by
  rw[BitVec.msb_eq_decide]
  simp[Nat.mod_eq_of_lt h]
 unfold st1 stB
 rw[hm]
 by_cases hr:2147483648<=r
 .simp only[hr,if_true,decide_true]
  rw[BitVec.toNat_xor,BitVec.toNat_shiftLeft,Nat.shiftLeft_eq,BitVec.toNat_ofNat,Nat.mod_eq_of_lt h]
  show(((r*2%4294967296)^^^79764919)%4294967296)%4294967296=(r*2^1%2^32)^^^(79764919#32).toNat
  have:((r*2%4294967296)^^^79764919)<2^32:=Nat.xor_lt_two_pow (Nat.mod_lt _ (by decide)) (by decide)
  rw[Nat.mod_mod,Nat.mod_eq_of_lt this]
  rfl
 .simp only[hr,if_false,decide_false,Bool.false_eq_true,BitVec.xor_zero]
  rw[BitVec.toNat_shiftLeft,Nat.shiftLeft_eq,BitVec.toNat_ofNat,Nat.mod_eq_of_lt h]
  rfl
theorem y03{r:Nat}(h:r<4294967296) :st1 r<4294967296:=by
 rw[y54 h]
 exact(stB _).isLt
def st4(r:Nat) :Nat:=st1 (st1 (st1 (st1 r)))
theorem y52{r:Nat}(h:r<4294967296) :st4 r<4294967296:=by
 unfold st4
 exact y03 (y03 (y03 (y03 h)))
theorem y53{r:Nat}(h:r<4294967296) :st4 r=(st4B (BitVec.ofNat 32 r)).toNat:=by
 unfold st4 st4B
 have e:∀ z:BitVec 32,st1 z.toNat=(stB z).toNat:=fun z=>by rw[y54 z.isLt,BitVec.ofNat_toNat,BitVec.setWidth_eq]
 rw[y54 h,e,e,e]
def crc8(r b:Nat) :Nat:=st4 (st4 (Nat.mod (Nat.mod (Nat.xor r (Nat.mod (b*16777216) 4294967296)) 4294967296) 4294967296))
def j0j(r:Nat)(bs:List Nat) :Nat:=bs.foldl crc8 r
theorem y9w(r b:Nat) :crc8 r b<4294967296:=by
 unfold crc8
 have h0:Nat.mod (Nat.mod (Nat.xor r (Nat.mod (b*16777216) 4294967296)) 4294967296) 4294967296<4294967296:=Nat.mod_lt _ (by omega)
 generalize Nat.mod (Nat.mod (Nat.xor r (Nat.mod (b*16777216) 4294967296)) 4294967296) 4294967296=z at h0 ⊢
 exact y52 (y52 h0)
theorem j38(r b:Nat)(bs:List Nat) :j0j r (b::bs)=j0j (crc8 r b) bs:=by
 unfold j0j
 rw[List.foldl_cons]
theorem y28(bs:List Nat) :∀ {r:Nat},r<4294967296->j0j r bs<4294967296:=by
 induction bs with
 | nil=>intro r h;unfold j0j;exact h
 | cons b bs ih=>intro r h;rw[j38];exact ih (y9w r b)
def tabC:List AVal:=tabZ.map fun n=>.int .u32 (.ofNat n)
theorem q1u{i:Nat}(h:i<16) :lget tabC (Nat.add 0 (Nat.mul i 1))=some (.int .u32 (.ofNat (tabZ.getD i 0)))/\tabZ.getD i 0<4294967296:=by
 have h:i=0\/i=1\/i=2\/i=3\/i=4\/i=5\/i=6\/i=7\/i=8\/i=9\/i=10\/i=11\/i=12\/i=13\/i=14\/i=15:=by omega
 rcases h with rfl | rfl | rfl | rfl | rfl | rfl | rfl | rfl | rfl | rfl | rfl | rfl | rfl | rfl | rfl | rfl<;>exact⟨rfl,by decide⟩
theorem j8e{x n:Nat}(hx:x<4294967296)(hn:n<16) :z8x tabC x n=some (st4 (x^^^(n*268435456))):=by
 obtain⟨h1,h2⟩:=q1l (BitVec.ofNat 32 x) hn
 rw[BitVec.toNat_ofNat,Nat.mod_eq_of_lt hx]at h1 h2
 have hi:u8x (Nat.mod (Nat.div x 268435456) 256) n=(x/268435456)^^^n:=by
  unfold u8x
  have e1:Nat.mod (Nat.div x 268435456) 256=x/268435456:=Nat.mod_eq_of_lt (by show x/268435456<256;omega)
  rw[e1]
  show((x/268435456^^^n)%256)%256=_
  rw[Nat.mod_mod,Nat.mod_eq_of_lt (by omega)]
 obtain⟨g1,g2⟩:=q1u h1
 unfold z8x
 rw[z30,hi]
 have hb:Nat.blt (x/268435456^^^n) 16=true:=by rw[Nat.blt_eq];exact h1
 rw[hb]
 simp only
 rw[g1]
 show some _=some _
 refine congrArg some ?_
 have hz:x^^^(n*268435456)<4294967296:=Nat.xor_lt_two_pow (n:=32) hx (by show _<4294967296;omega)
 rw[y53 hz]
 have ez:BitVec.ofNat 32 (x^^^n*268435456)=BitVec.ofNat 32 x^^^nibB n:=by
  apply BitVec.eq_of_toNat_eq
  unfold nibB
  rw[BitVec.toNat_xor,BitVec.toNat_ofNat,BitVec.toNat_ofNat,BitVec.toNat_ofNat,Nat.mod_eq_of_lt (by exact hz),Nat.mod_eq_of_lt (by exact hx),Nat.mod_eq_of_lt (by show _<4294967296;omega)]
 rw[ez,h2,BitVec.toNat_xor,BitVec.toNat_shiftLeft,Nat.shiftLeft_eq,BitVec.toNat_ofNat,BitVec.toNat_ofNat,Nat.mod_eq_of_lt (show x<2^32 from hx),Nat.mod_eq_of_lt (show tabZ.getD (x/268435456^^^n) 0<2^32 from g2)]
 unfold u32x
 show(((x*16%4294967296)^^^_)%4294967296)%4294967296=(x*2^4%2^32)^^^_
 rw[Nat.mod_mod,Nat.mod_eq_of_lt (Nat.xor_lt_two_pow (n:=32) (Nat.mod_lt _ (by decide)) g2)]
theorem y29{x y:Nat}(hx:x<4294967296)(hy:y<256) :crc8 x y=st4 (st4 (x^^^(y/16*268435456))^^^(y%16*268435456)):=by
 have hz:x^^^(y*16777216)<4294967296:=Nat.xor_lt_two_pow (n:=32) hx (by show _<4294967296;omega)
 unfold crc8
 have e0:Nat.mod (Nat.mod (Nat.xor x (Nat.mod (y*16777216) 4294967296)) 4294967296) 4294967296=x^^^(y*16777216):=by
  have e1:Nat.mod (y*16777216) 4294967296=y*16777216:=Nat.mod_eq_of_lt (by omega)
  rw[e1]
  show((x^^^(y*16777216))%4294967296)%4294967296=_
  rw[Nat.mod_mod,Nat.mod_eq_of_lt hz]
 rw[e0]
 congr 1
 have ha:x^^^(y/16*268435456)<4294967296:=Nat.xor_lt_two_pow (n:=32) hx (by show _<4294967296;omega)
 rw[y53 hz,y53 ha]
 have e2:∀ y,y<256->y*16777216=(y/16*268435456)^^^(y%16*16777216):=by decide +kernel
 have e3:∀ i,i<16->st4B (BitVec.ofNat 32 (i*16777216))=BitVec.ofNat 32 (i*268435456):=by decide +kernel
 have e4:BitVec.ofNat 32 (x^^^y*16777216)=BitVec.ofNat 32 (x^^^y/16*268435456)^^^BitVec.ofNat 32 (y%16*16777216):=by
  rw[e2 y hy,<-Nat.xor_assoc,BitVec.ofNat_xor]
 rw[e4,j4m,e3 _ (by omega),BitVec.toNat_xor,BitVec.toNat_ofNat,Nat.mod_eq_of_lt (show y%16*268435456<2^32 by omega)]
theorem j8f:∀ (bs:List Nat) {x:Nat},x<4294967296->(∀ b∈bs,b<256)->z8y tabC (z0b bs) x=some (j0j x bs)
 | [],x,_,_=>rfl
 | y::bs,x,hx,hb=>by
  have hy:y<256:=hb y (by simp)
  have ha:x^^^(y/16*268435456)<4294967296:=Nat.xor_lt_two_pow (n:=32) hx (by show _<4294967296;omega)
  simp only[z0b,z8y]
  rw[j8e hx (show Nat.div y 16<16 by show y/16<16;omega)]
  simp only[z30]
  have e1:u8a y 15=y%16:=by
   unfold u8a
   show(Nat.land y 15%256)%256=_
   have:Nat.land y 15=y%16:=Nat.and_two_pow_sub_one_eq_mod y 4
   rw[this];omega
  rw[e1,show y.div 16=y/16 from rfl,j8e (y52 ha) (by omega)]
  simp only[z30]
  rw[j38,y29 hx hy]
  exact j8f bs (by rw[<-y29 hx hy];exact y9w _ _) (fun b h=>hb b (List.mem_cons_of_mem _ h))
def z2j(c:Nat)(bs:List Nat) :Nat:=4294967295-j0j (4294967295-c) bs
abbrev z2m(bs:List Nat) :Nat:=z2j 0 bs
theorem j39(c:Nat)(bs:List Nat) :z2j c bs<4294967296:=by unfold z2j;omega
theorem y0i:∀ {n:Nat},n<4294967296->u32x 4294967295 n=4294967295-n:=by
 intro n h
 unfold u32x
 have e:Nat.xor 4294967295 n=4294967295-n:=by
  have:=BitVec.toNat_not (x:=BitVec.ofNat 32 n)
  rw[BitVec.not_def,BitVec.toNat_xor]at this
  rw[BitVec.toNat_ofNat,Nat.mod_eq_of_lt (show n<2^32 from h)]at this
  exact this
 rw[e]
 show((4294967295-n)%4294967296)%4294967296=_
 omega
theorem q6e{g:Pos}{H:AHeap}{op ro:Bool}(hg:PT.get g H.t=some (.cells tabC op ro)){n:Nat}{s:AVal}{bs:List Nat}(hs:z4s n H s (z0b bs))(hb:∀ b∈bs,b<256)(hl:bs.length<=4611686018427387904){c:Nat}(hc:c<4294967296) :sCrc g [.int .u32 (.ofNat c),s] H=some (.int .u32 (.ofNat (z2j c bs)),H):=by
 have hl2:(z0b bs).length=bs.length:=by
  clear hs hb hl
  induction bs with
  | nil=>rfl
  | cons a l ih=>simp[z0b,ih]
 have h1:z7h H s=some (z0b bs):=by
  rcases hs with⟨rfl,e⟩ | ⟨b,o,cap,sz,rfl,h,_⟩
  .rw[e];rfl
  .unfold z7h
   simp only
   have:Nat.ble (z0b bs).length 9223372036854775807=true:=Nat.ble_eq_true_of_le (by omega)
   rw[this]
   exact h
 unfold sCrc
 simp only[hg,h1,z30]
 rw[y0i hc,j8f bs (by omega) hb]
 simp only
 rw[y0i (y28 bs (by omega))]
 rfl
end Go.Am
end
section
namespace Go.Am
open Go Go.Proofs
def okc(c:Nat) :Prop:=(97<=c/\c<=122)\/(48<=c/\c<=57)\/c=46
def IsNm(s:List Nat) :Prop:=1<=s.length/\s.length<=64/\∀ c∈s,okc c
section
variable{E:Env}(C:Ck E)
include C
theorem k0j{H:AHeap}(v:AVal) :z0f E 22 [v] H v H:=by
 refine C.c22.re (by conv=>lhs;reduce) ?_
 simp(maxDischargeDepth:=9)only[auX]
theorem z9z{H:AHeap}{x y:AVal}{us vs:List Nat}(h1:z2p H x=some (.str us))(h2:z2p H y=some (.str vs)) :z0f E 169 [x,y] H (.bool (z14 us vs)) H:=by
 refine C.c169.re (by conv=>lhs;reduce) ?_
 simp(maxDischargeDepth:=9)only[auX,h1,h2]
theorem q86{H:AHeap}{r:Nat} :z0f E 270 [.int .u32 (.ofNat r)] H (.int .u32 (.ofNat (st1 r))) H:=by
 refine C.c270.re (by conv=>lhs;reduce) ?_
 by_cases h:2147483648<=r<;>simp(maxDischargeDepth:=9)only[auX,↓reduceIte,h,st1]
theorem y7y{H:AHeap}{s:List Nat}(h:IsNm s) :z0f E 140 [.str s] H (.bool true) H:=by
 obtain⟨h1,h2,hc⟩:=h
 refine C.c140.re (by conv=>lhs;reduce) ?_
 simp(maxDischargeDepth:=9)only[auX,bq,show ¬ s.length<1 by omega,show ¬ 64<s.length by omega]
 refine W.loopI (fun k t H'=>∃ i,i+k=s.length/\PT.get .h t=some (.str s)/\PT.get (.o (.o .h)) t=some (.int .i64 (.ofNat i))/\H'=H) ?_ s.length _ _ ⟨0,by omega,rfl,rfl,rfl⟩
 rintro k t H' ⟨i,hi,g0,g1,rfl⟩
 by_cases hk:k=0
 .simp(maxDischargeDepth:=9)only[auX,↓reduceIte,g0,g1,show ¬ i<s.length by omega]
 .have hi2:i<s.length:=by omega
  have:=hc s[i] (List.getElem_mem hi2)
  unfold okc at this
  by_cases a1:s[i]<97<;>by_cases a2:122<s[i]<;>by_cases a3:s[i]<48<;>by_cases a4:57<s[i]<;>by_cases a5:s[i]=46<;>first | (exfalso;omega) | (simp(maxDischargeDepth:=9)only[auX,bq,Nat.reduceLT,g0,g1,hi2,y8s hi2,a1,a2,a3,a4,a5,z0o (i:=i) (k:=1) (by omega)];exact⟨k-1,by omega,i+1,by omega,by simp⟩)
end
abbrev Ent:=List Nat×Nat
def ent(es:List Ent) :List AVal:=es.flatMap fun e=>[.str e.1,.int .i64 (.ofNat e.2)]
theorem z9k{α:Type}(f:α->List AVal)(k:Nat)(hf:∀ a,(f a).length=k) :∀ (l:List α) (i:Nat) (hi:i<l.length),((l.flatMap f).drop (i*k)).take k=f l[i]
 | a::l,0,_=>by simp[<-hf a]
 | a::l,i+1,h=>by
  have e:(i+1)*k=(f a).length+i*k:=by rw[hf,Nat.add_mul];omega
  rw[List.flatMap_cons,e,<-List.drop_drop,List.drop_left]
  exact z9k f k hf l i (by simpa using h)
theorem z1j:∀ a b:List Nat,z14 a b=decide (a=b)
 | [],[]=>rfl
 | [],_::_=>rfl
 | _::_,[]=>rfl
 | a::l,b::m=>by
  simp only[z14,y12,z1j l m]
  by_cases h:a=b<;>simp[h]
def DirR(H:AHeap)(v:AVal)(es:List Ent) :Prop:=Rd 2 H v es.length (ent es)
theorem DirR.at{H:AHeap}{v:AVal}{es:List Ent}(h:DirR H v es){i:Nat}(hi:i<es.length) :∃ b o,z2t 2 v (.int .i64 (.ofNat i))=some (.ptr b o)/\z0t H b o 2=some [.str es[i].1,.int .i64 (.ofNat es[i].2)]/\z04 H b o=some (.str es[i].1)/\z04 H b (o+1)=some (.int .i64 (.ofNat es[i].2)):=by
 obtain⟨b,o,h1,h2,_⟩:=Rd.at h hi
 have e:((ent es).drop (i*2)).take 2=[.str es[i].1,.int .i64 (.ofNat es[i].2)]:=z9k _ 2 (fun _=>rfl) es i hi
 rw[e]at h2
 exact⟨b,o,h1,h2,(z2e h2).2.2 0 (by simp),(z2e h2).2.2 1 (by simp)⟩
theorem DirR.atS{H:AHeap}{v:AVal}{es:List Ent}(h:DirR H v es){i:Nat}(hi:i<es.length) :∃ b o,z2t 2 v (.int .i64 (.ofNat i))=some (.ptr b o)/\∀ H2,Keep H.nx.toNat H H2->z0t H2 b o 2=some [.str es[i].1,.int .i64 (.ofNat es[i].2)]/\z04 H2 b o=some (.str es[i].1)/\z04 H2 b (o+1)=some (.int .i64 (.ofNat es[i].2)):=by
 obtain⟨b,o,h1,_⟩:=h.at hi
 refine⟨b,o,h1,fun H2 k=>?_⟩
 obtain⟨b',o',h1',h2⟩:=DirR.at (h.keep k lr) hi
 rw[h1]at h1'
 cases h1'
 exact h2
def ratF(nm:List Nat) :List Ent->Nat->Int
 | [],_=>.negSucc 0
 | e::l,i=>if e.1=nm then .ofNat i else ratF nm l (i+1)
abbrev RC(vf vd vp:AVal)(ct:Nat) :List AVal:=[.int .i64 (.ofNat 2147483647),vf,vd,vp,.bool false,.int .i64 (.ofNat 0),.int .i64 (.ofNat ct)]
abbrev RF(H:AHeap)(F:Pos)(vf vd vp:AVal)(ct:Nat) :Prop:=PT.get F H.t=some (.cells (RC vf vd vp ct) false false)
section
variable{E:Env}(C:Ck E)
include C
theorem at_k{H:AHeap}{v:AVal}{es:List Ent}(h:DirR H v es)(hl:es.length<=1000000)(nm:List Nat) :z0f E 74 [v,.str nm] H (.int .i64 (ratF nm es 0)) H:=by
 refine C.c74.re (by conv=>lhs;reduce) ?_
 simp(maxDischargeDepth:=9)only[auX]
 refine W.loopI (fun k t H'=>∃ i,i+k=es.length/\PT.get .h t=some (v)/\PT.get (.o .h) t=some (.str nm)/\PT.get (.o (.i .h)) t=some (.int .i64 (.ofNat i))/\ratF nm (es.drop i) i=ratF nm es 0/\H'=H) ?_ es.length _ _ ⟨0,by omega,rfl,rfl,rfl,rfl,rfl⟩
 rintro k t H' ⟨i,hi,g0,g1,g3,hr,rfl⟩
 by_cases hk:k=0
 .rw[List.drop_eq_nil_of_le (by omega)]at hr
  simp(maxDischargeDepth:=9)only[auX,↓reduceIte,g0,g3,Rd.len h,show ¬ i<es.length by omega]
  rw[<-hr];rfl
 .have hi2:i<es.length:=by omega
  obtain⟨b,o,e1,_,e2,_⟩:=h.at hi2
  rw[List.drop_eq_getElem_cons hi2]at hr
  by_cases hn:es[i].1=nm
  .have hn2:z14 es[i].1 nm=true:=by rw[z1j,hn];simp
   simp(maxDischargeDepth:=9)only[auX,aZ,g0,g1,g3,Rd.len h,hi2,e1,e2,hn2]
   rw[<-hr,ratF,if_pos hn]
  .have hn2:z14 es[i].1 nm=false:=by rw[z1j];simp[hn]
   rw[ratF,if_neg hn]at hr
   simp(maxDischargeDepth:=9)only[auX,aZ,g0,g1,g3,Rd.len h,hi2,e1,e2,hn2,z0o (i:=i) (k:=1) (by omega)]
   exact⟨k-1,by omega,i+1,by omega,rfl,hr⟩
theorem z4d{H:AHeap}{F:Pos}{vf vd vp:AVal}{ct:Nat}(fs:RF H F vf vd vp ct){nm:List Nat}(hn:IsNm nm) :z0f E 73 [.ptr F 0,.str nm] H (.int .i64 (.ofNat 0)) H:=by
 refine C.c73.re (by conv=>lhs;reduce) ?_
 simp(maxDischargeDepth:=9)only[auX,zA,hl_g fs,z0c (y7y C hn)]
theorem j9y{H:AHeap}{F:Pos}{vf vd vp:AVal}{ct:Nat}(fs:RF H F vf vd vp ct)(hc:ct<=1000000) :z0f E 80 [.ptr F 0] H (.bool false) (H.upd F (.cells (RC vf vd vp (ct+1)) false false)):=by
 refine C.c80.re (by conv=>lhs;reduce) ?_
 simp(maxDischargeDepth:=9)only[auX,zA,hl_g fs,z0z fs,z0o (i:=ct) (k:=1) (by omega)]
theorem y7f{H:AHeap}{F:Pos}{vf vd vp:AVal}{ct:Nat}(fs:RF H F vf vd vp ct)(hc:ct<=1000000) :z0f E 79 [.ptr F 0] H (.int .i64 (.ofNat 0)) (H.upd F (.cells (RC vf vd vp (ct+1)) false false)):=by
 refine C.c79.re (by conv=>lhs;reduce) ?_
 simp(maxDischargeDepth:=9)only[auX,z0c (j9y C fs hc)]
theorem k0k{H:AHeap}{F:Pos}{vf vd vp:AVal}{ct n:Nat}{l:List AVal}{d:AVal}(fs:RF H F vf vd vp ct)(hd:Rd 1 H vd (n+1) (l++[d]))(hn:n<=1000000) :z0f E 75 [.ptr F 0] H d H:=by
 have hl:l.length=n:=by have:=hd.1;simp at this;exact this
 obtain⟨b,o,e1,e2⟩:=Rd.at1 hd (i:=n) (x:=d) (by simp[hl])
 refine C.c75.re (by conv=>lhs;reduce) ?_
 simp(maxDischargeDepth:=9)only[auX,zA,hl_g fs,Rd.len hd,z74 (i:=n+1) (k:=1) (by omega) (by omega),Nat.add_sub_cancel,e1,e2]
end
end Go.Am
end
