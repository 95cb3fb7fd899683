import Derived.Test.YtepncpggenncoaaGreatDoorDc8
import Derived.Test.YtepncpggenncoaaGreatDoorDc4
import Derived.Test.YtepncpggenncoaaGreatDoorDc5
set_option linter.all false
set_option maxRecDepth 20000
set_option maxHeartbeats 8000000
namespace Go.Am
open Go Go.Proofs
theorem y6d{a k:Nat}(ha:a<256)(hk:k<=24) :z0l .shl (.int .i64 (.ofNat a)) (.int .u64 (.ofNat k))=some (.int .i64 (.ofNat (a*2^k))):=by
 have h1:Nat.min k 64=k:=Nat.min_eq_left (by omega)
 have h2:a*2^k<=9223372036854775807:=by
  have:2^k<=2^24:=Nat.pow_le_pow_right (by decide) hk
  have:a*2^k<=256*2^24:=Nat.mul_le_mul (by omega) this
  exact Nat.le_trans this (by decide)
 have hb:IntKind.i64.bits=64:=rfl
 have h3:Nat.ble (Nat.mul a (Nat.pow 2 k)) 9223372036854775807=true:=z4u h2
 show(let n:=Nat.min k IntKind.i64.bits;some (AVal.int .i64 (z1n .i64 (mulI (.ofNat a) (.ofNat (Nat.pow 2 n))))))=_
 simp only[hb,h1,mulI,z1n,h3]
 rfl
theorem k2v{a b:Nat}(h:a ||| b<=4294967295) :z0l .or (.int .i64 (.ofNat a)) (.int .i64 (.ofNat b))=some (.int .i64 (.ofNat (a ||| b))):=by
 show some (AVal.int .i64 (z1n .i64 (.ofNat (Nat.mod (Nat.lor a b) 18446744073709551616))))=_
 have h1:Nat.mod (Nat.lor a b) 18446744073709551616=a ||| b:=Nat.mod_eq_of_lt (by show a ||| b<_;omega)
 rw[h1]
 have h2:Nat.ble (a ||| b) 9223372036854775807=true:=z4u (by omega)
 simp only[z1n,h2]
theorem or_s{a b k:Nat}(hb:b<2^k)(h:a*2^k+b<=4294967295) :z0l .or (.int .i64 (.ofNat (a*2^k))) (.int .i64 (.ofNat b))=some (.int .i64 (.ofNat (a*2^k+b))):=by
 have e:a*2^k ||| b=a*2^k+b:=by rw[<-Nat.shiftLeft_eq,Nat.shiftLeft_add_eq_or_of_lt hb]
 rw[k2v (by omega),e]
theorem j00{a:Nat}(h:a<=9223372036854775807) :z1n .i64 (.ofNat a)=.ofNat a:=by
 have h2:Nat.ble a 9223372036854775807=true:=z4u h
 simp only[z1n,h2]
theorem q1k{a b c d:Nat}(ha:a<256)(hb:b<256)(hc:c<256)(hd:d<256) :
  z0l .shl (.int .i64 (.ofNat a)) (.int .u64 (.ofNat 24))=some (.int .i64 (.ofNat (a*16777216))) ∧
  z0l .shl (.int .i64 (.ofNat b)) (.int .u64 (.ofNat 16))=some (.int .i64 (.ofNat (b*65536))) ∧
  z0l .shl (.int .i64 (.ofNat c)) (.int .u64 (.ofNat 8))=some (.int .i64 (.ofNat (c*256))) ∧
  z0l .or (.int .i64 (.ofNat (a*16777216))) (.int .i64 (.ofNat (b*65536)))=some (.int .i64 (.ofNat (a*16777216+b*65536))) ∧
  z0l .or (.int .i64 (.ofNat (a*16777216+b*65536))) (.int .i64 (.ofNat (c*256)))=some (.int .i64 (.ofNat (a*16777216+b*65536+c*256))) ∧
  z0l .or (.int .i64 (.ofNat (a*16777216+b*65536+c*256))) (.int .i64 (.ofNat d))=some (.int .i64 (.ofNat (a*16777216+b*65536+c*256+d))) ∧
  z0l .add (.int .i64 (.ofNat (a*16777216))) (.int .i64 (.ofNat (b*65536)))=some (.int .i64 (.ofNat (a*16777216+b*65536))) ∧
  z0l .add (.int .i64 (.ofNat (a*16777216+b*65536))) (.int .i64 (.ofNat (c*256)))=some (.int .i64 (.ofNat (a*16777216+b*65536+c*256))) ∧
  z0l .add (.int .i64 (.ofNat (a*16777216+b*65536+c*256))) (.int .i64 (.ofNat d))=some (.int .i64 (.ofNat (a*16777216+b*65536+c*256+d))) ∧
  z1n .i64 (.ofNat a)=.ofNat a/\z1n .i64 (.ofNat b)=.ofNat b/\z1n .i64 (.ofNat c)=.ofNat c/\z1n .i64 (.ofNat d)=.ofNat d:=by
 refine⟨y6d (k:=24) ha (by omega),y6d (k:=16) hb (by omega),y6d (k:=8) hc (by omega),or_s (k:=24) (by show _<16777216;omega) (by show a*16777216+_<=_;omega),?_,?_,z0o (by omega),z0o (by omega),z0o (by omega),j00 (by omega),j00 (by omega),j00 (by omega),j00 (by omega)⟩
 .have:=or_s (a:=a*256+b) (b:=c*256) (k:=16) (by show _<65536;omega) (by show(a*256+b)*65536+_<=_;omega)
  rw[show(a*256+b)*2^16=a*16777216+b*65536 by show(a*256+b)*65536=_;omega]at this
  exact this
 .have:=or_s (a:=a*65536+b*256+c) (b:=d) (k:=8) (by show _<256;omega) (by show(a*65536+b*256+c)*256+_<=_;omega)
  rw[show(a*65536+b*256+c)*2^8=a*16777216+b*65536+c*256 by show(a*65536+b*256+c)*256=_;omega]at this
  exact this
theorem By.four{H:AHeap}{v:AVal}{us:List Nat}(h:By H v us){k:Nat}(hk:k+4<=us.length) :∃ a b c d,a<256/\b<256/\c<256/\d<256/\be4 us k=a*16777216+b*65536+c*256+d ∧
  (∃ p o,z2t 1 v (.int .i64 (.ofNat k))=some (.ptr p o)/\z04 H p o=some (.int .u8 (.ofNat a)))/\(∃ p o,z2t 1 v (.int .i64 (.ofNat (k+1)))=some (.ptr p o)/\z04 H p o=some (.int .u8 (.ofNat b))) ∧
  (∃ p o,z2t 1 v (.int .i64 (.ofNat (k+2)))=some (.ptr p o)/\z04 H p o=some (.int .u8 (.ofNat c)))/\∃ p o,z2t 1 v (.int .i64 (.ofNat (k+3)))=some (.ptr p o)/\z04 H p o=some (.int .u8 (.ofNat d)):=by
 refine⟨us[k],us[k+1],us[k+2],us[k+3],h.2 _ (List.getElem_mem _),h.2 _ (List.getElem_mem _),h.2 _ (List.getElem_mem _),h.2 _ (List.getElem_mem _),?_,h.at (by omega),h.at (by omega),h.at (by omega),h.at (by omega)⟩
 unfold be4
 rw[z4o (by omega),z4o (by omega),z4o (by omega),z4o (by omega)]
theorem j55(us:List Nat)(a k:Nat) :be4 (us.drop a) k=be4 us (a+k):=by
 unfold be4
 simp only[List.getD_eq_getElem?_getD,List.getElem?_drop,Nat.add_assoc]
section
variable{E:Env}(C:Ck E)
include C
theorem z8h{H:AHeap}{v:AVal}{us:List Nat}(h:By H v us)(hl:us.length<=1000000){k:Nat}(hk:k+4<=us.length) :z0f E 158 [v,.int .i64 (.ofNat k)] H (.int .i64 (.ofNat (be4 us k))) H:=by
 obtain⟨a,b,c,d,ha,hb,hc,hd,e,⟨p0,o0,i0,l0⟩,⟨p1,o1,i1,l1⟩,⟨p2,o2,i2,l2⟩,⟨p3,o3,i3,l3⟩⟩:=h.four hk
 rw[e]
 refine C.c158.re (by conv=>lhs;reduce) ?_
 simp(maxDischargeDepth:=9)only[auX,i0,l0,i1,l1,i2,l2,i3,l3,q1k ha hb hc hd,z0o (i:=k) (k:=1) (by omega),z0o (i:=k) (k:=2) (by omega),z0o (i:=k) (k:=3) (by omega)]
theorem y1z{H:AHeap}{v:AVal}{us:List Nat}(h:By H v us)(hl:us.length<=1000000){k:Nat}(hk:k+4<=us.length) :z0f E 364 [v,.int .i64 (.ofNat k)] H (.int .i64 (.ofNat (be4 us k))) H:=by
 obtain⟨a,b,c,d,ha,hb,hc,hd,e,⟨p0,o0,i0,l0⟩,⟨p1,o1,i1,l1⟩,⟨p2,o2,i2,l2⟩,⟨p3,o3,i3,l3⟩⟩:=h.four hk
 rw[e]
 refine C.c364.re (by conv=>lhs;reduce) ?_
 simp(maxDischargeDepth:=9)only[auX,i0,l0,i1,l1,i2,l2,i3,l3,q1k ha hb hc hd,z0o (i:=k) (k:=1) (by omega),z0o (i:=k) (k:=2) (by omega),z0o (i:=k) (k:=3) (by omega)]
theorem j1u{H:AHeap}{v:AVal}{us:List Nat}(h:By H v us)(hl:us.length<=1000000){k:Nat}(hk:4*k+4<=us.length) :z0f E 67 [v,.int .i64 (.ofNat k)] H (.int .i64 (.ofNat (be4 us (4*k)))) H:=by
 obtain⟨w,hw,_,_,_,s⟩:=h.sub (a:=4*k) (b:=us.length) (by omega) lr (by omega)
 rw[List.take_of_length_le (by rw[List.length_drop];omega)]at hw
 obtain⟨a,b,c,d,ha,hb,hc,hd,e,⟨p0,o0,i0,l0⟩,⟨p1,o1,i1,l1⟩,⟨p2,o2,i2,l2⟩,⟨p3,o3,i3,l3⟩⟩:=hw.four (k:=0) (by rw[List.length_drop];omega)
 rw[j55]at e
 rw[show 4*k=4*k+0 by omega,e]
 refine C.c67.re (by conv=>lhs;reduce) ?_
 simp(maxDischargeDepth:=9)only[auX,i0,l0,i1,l1,i2,l2,i3,l3,q1k ha hb hc hd,j0l (i:=4) (k:=k) (by omega),s rfl]
theorem y10{H:AHeap}{v:AVal}{us:List Nat}(h:By H v us)(hl:us.length<=1000000){k:Nat}(hk:4*k+4<=us.length) :z0f E 301 [v,.int .i64 (.ofNat k)] H (.int .i64 (.ofNat (be4 us (4*k)))) H:=by
 obtain⟨w,hw,_,_,_,s⟩:=h.sub (a:=4*k) (b:=us.length) (by omega) lr (by omega)
 rw[List.take_of_length_le (by rw[List.length_drop];omega)]at hw
 obtain⟨a,b,c,d,ha,hb,hc,hd,e,⟨p0,o0,i0,l0⟩,⟨p1,o1,i1,l1⟩,⟨p2,o2,i2,l2⟩,⟨p3,o3,i3,l3⟩⟩:=hw.four (k:=0) (by rw[List.length_drop];omega)
 rw[j55]at e
 rw[show 4*k=4*k+0 by omega,e]
 refine C.c301.re (by conv=>lhs;reduce) ?_
 simp(maxDischargeDepth:=9)only[auX,i0,l0,i1,l1,i2,l2,i3,l3,q1k ha hb hc hd,j0l (i:=4) (k:=k) (by omega),s rfl]
end
section
variable{E:Env}(C:Ck E)
include C
theorem j9p{H:AHeap}{F:Pos}{files:List (List Nat×Nat)}{es:List Ent}{ct:Nat}{S:Pos->Prop}(h:RS H F files [es] 0 ct S)(he:es.length<=1000)(hb:∀ f∈files,f.1.length<=1000000/\f.2<=f.1.length)(hx:∀ e∈es,e.2<files.length) :∃ w H',z0f E 40 [.ptr F 0] H w H'/\z2c H.nx.toNat H' w (z6d files es)/\Keep H.nx.toNat H H':=by
 obtain⟨w,H',c,f,k⟩:=q7b C h he hb hx
 refine⟨w,H',?_,f,k⟩
 refine C.c40.re (by conv=>lhs;reduce) ?_
 simp(maxDischargeDepth:=9)only[auX,z0c c]
theorem q6w{H:AHeap}{F:Pos}{files:List (List Nat×Nat)}{dirs:List (List Ent)}{np ct:Nat}{S:Pos->Prop}(h:RS H F files dirs np ct S)(hd:0<dirs.length)(hd2:dirs.length<=1000) :z0f E 53 [.ptr F 0] H (.int .i64 (.ofNat (dirs.length-1))) H:=by
 obtain⟨vf,vd,vp,fl,ds,h,e1,e2,rfl⟩:=h
 have l2:ds.length=dirs.length:=by rw[<-e2,List.length_map]
 refine C.c53.re (by conv=>lhs;reduce) ?_
 simp(maxDischargeDepth:=9)only[auX,zA,hl_g h.fs,h.gd.rd.len,l2,z74 (i:=dirs.length) (k:=1) (by omega) (by omega)]
theorem q97{H:AHeap}{F:Pos}{files:List (List Nat×Nat)}{dirs:List (List Ent)}{np ct:Nat}{S:Pos->Prop}(h:RS H F files dirs np ct S) :z0f E 56 [.ptr F 0] H (.int .i64 (.ofNat ct)) H:=by
 obtain⟨vf,vd,vp,fl,ds,h,e1,e2,rfl⟩:=h
 refine C.c56.re (by conv=>lhs;reduce) ?_
 simp(maxDischargeDepth:=9)only[auX,zA,hl_g h.fs]
theorem q06{H:AHeap}{F:Pos}{files:List (List Nat×Nat)}{dirs:List (List Ent)}{np ct:Nat}{S:Pos->Prop}(h:RS H F files dirs np ct S) :z0f E 58 [.ptr F 0] H (.bool true) H:=by
 obtain⟨vf,vd,vp,fl,ds,h,e1,e2,rfl⟩:=h
 refine C.c58.re (by conv=>lhs;reduce) ?_
 simp(maxDischargeDepth:=9)only[auX,zA,hl_g h.fs]
end
theorem y8v{lens:List Nat}{M:Nat}(hl:∀ x∈lens,x<=M) :∀ (xs:List Nat) (met:List Bool) (n:Nat),hst lens xs met n<=n+xs.length*M
 | [],met,n=>by simp[hst]
 | x::xs,met,n=>by
  have e:(x::xs).length*M=M+xs.length*M:=by rw[List.length_cons,Nat.add_mul,Nat.one_mul,Nat.add_comm]
  have hx:lens.getD x 0<=M:=by
   rw[List.getD]
   rcases Nat.lt_or_ge x lens.length with h | h
   .rw[List.getElem?_eq_getElem h];exact hl _ (List.getElem_mem h)
   .rw[List.getElem?_eq_none h];exact Nat.zero_le _
  simp only[hst]
  split
  .have:=y8v hl xs met n;omega
  .have:=y8v hl xs (met.set x true) (n+lens.getD x 0);omega
theorem j2b{α β:Type}{f:α->List β}{M:Nat} :∀ {l:List α},(∀ a∈l,(f a).length<=M)->(l.flatMap f).length<=l.length*M
 | [],_=>by simp
 | a::l,h=>by
  have h1:=h a (by simp)
  have h2:=j2b (l:=l) (fun b hb=>h b (by simp[hb]))
  rw[List.flatMap_cons,List.length_append,List.length_cons,Nat.add_mul]
  omega
structure RB (files:List (List Nat×Nat)) (dirs:List (List Ent)) (np ct:Nat) :Prop where
 f:files.length<=20
 d:dirs.length<=20
 e:∀ es∈dirs,es.length<=20
 x:∀ es∈dirs,∀ e∈es,e.2<files.length
 b:∀ f∈files,f.1.length<=1000000
 p:np<=20
 c:ct<=10000
theorem RB.fit{files:List (List Nat×Nat)}{dirs:List (List Ent)}{np ct:Nat}(r:RB files dirs np ct) :Fit files dirs/\j16 files dirs<=400000000:=by
 have hi:(idxs dirs).length<=400:=by
  have:=j2b (f:=fun es:List Ent=>es.map (·.2)) (M:=20) (l:=dirs) (fun es he=>by rw[List.length_map];exact r.e es he)
  have h2:=r.d
  have h3:dirs.length*20<=20*20:=Nat.mul_le_mul_right 20 h2
  exact Nat.le_trans this h3
 refine⟨⟨r.b,by have:=r.f;omega,by have:=r.d;omega,fun es he=>by have:=r.e es he;omega,r.x,by omega⟩,?_⟩
 have:=y8v (lens:=files.map (·.1.length)) (M:=1000000) (fun x hx=>by obtain⟨f,hf,rfl⟩:=List.mem_map.1 hx;exact r.b f hf) (idxs dirs) (List.replicate files.length false) 0
 unfold j16
 omega
theorem RB.set{files:List (List Nat×Nat)}{dirs:List (List Ent)}{np ct:Nat}(r:RB files dirs np ct){x:Nat}{f:List Nat×Nat}(hf:f.1.length<=1000000)(hc:ct<10000) :RB (files.set x f) dirs np (ct+1) :=
 ⟨by rw[List.length_set];exact r.f,r.d,r.e,fun es he e hh=>by rw[List.length_set];exact r.x es he e hh,fun g hg=>by
  rcases List.mem_or_eq_of_mem_set hg with h | rfl
  .exact r.b g h
  .exact hf,r.p,by omega⟩
abbrev WC(F:Pos)(nm:List Nat)(n crc cnt:Nat)(dn:Bool) :List AVal:=[.ptr F 0,.str nm,.int .i64 (.ofNat n),.int .u32 (.ofNat crc),.int .i64 (.ofNat cnt),.bool dn]
abbrev j21(N:Nat)(q:Pos)(S:Pos->Prop)(H:AHeap)(S':Pos->Prop)(H':AHeap) :Prop:=Step N (fun p=>S p\/p=q) H (fun p=>S' p\/p=q) H'
section
variable{E:Env}(C:Ck E)
include C
theorem q4f{N:Nat}{H:AHeap}{F:Pos}{files:List (List Nat×Nat)}{dirs:List (List Ent)}{es:List Ent}{np ct:Nat}{S:Pos->Prop}(h:RS H F files (dirs++[es]) np ct S)(hN:N<=H.nx.toNat)(rb:RB files (dirs++[es]) np ct)(hct:ct<9999){nm:List Nat}(hn:IsNm nm){j:Nat}(h0:ratF nm es 0=.ofNat j){x:Nat}(hx:∃ hj:j<es.length,es[j].2=x)(hxl:x<files.length){q:Pos}{n crc cnt:Nat}{dn:Bool}(hg:PT.get q H.t=some (.cells (WC F nm n crc cnt dn) false false))(hq:¬ S q)(hq2:q.toNat<H.nx.toNat)(hcr:crc<4294967296)(hnn:n<=1000000)
  {k:Nat} {v:AVal} {p:List Nat} (hv:By H v p) (hvs:∀ z,blk v z->¬ S z/\z≠q) (hk:z34 k) (hp:p.length<=1024) (hl:files[x].1.length+(12+p.length)<=1000000) :
  ∃ H' S',z0f E 143 [.ptr q 0,.agg [.int .i64 (.ofNat k),v]] H (.int .i64 (.ofNat 0)) H'/\RS H' F (files.set x (files[x].1++fenc k p,files[x].2)) (dirs++[es]) np (ct+1) S'/\PT.get q H'.t=some (.cells (WC F nm (n+(12+p.length)) (if k=3 then crc else z2j crc p) cnt dn) false false)/\¬ S' q/\j21 N q S H S' H':=by
 have hsc:=hv.sc
 have kB:Keep H.nx.toNat H (H.new (.cells [.int .i64 (.ofNat k),v] false false)).2:=z0d
 have gB:PT.get H.nx (H.new (.cells [.int .i64 (.ofNat k),v] false false)).2.t=some (.cells [.int .i64 (.ofNat k),v] false false):=z0i
 have lB:H.nx.toNat<(H.new (.cells [.int .i64 (.ofNat k),v] false false)).2.nx.toNat:=z0h
 obtain⟨w,H1,c1,B1,K1⟩:=q5e C (hv.keep kB lr) hk hp
 have n1:=K1.nx
 have kk1:Keep H.nx.toNat H H1:=kB.trans (K1.mono (Nat.le_of_lt lB))
 have fl:(fenc k p).length=12+p.length:=z06 k p
 have d1:dirs.length<=900:=by have:=rb.d;simp at this;omega
 have e1:es.length<=1000:=by have:=rb.e es (by simp);omega
 obtain⟨ft,fh⟩:=rb.fit
 obtain⟨H2,S',c2,R2,st⟩:=j8p C (N:=H1.nx.toNat) (h.keep kk1 lr) lr e1 d1 (by have:=rb.f;omega) (by have:=rb.p;omega) (by have:=rb.c;omega) hn h0 hx hxl B1.by.1 B1.2 ft (by omega) (by omega)
 have hS:∀ z,S z->z.toNat<H.nx.toNat:=fun z hz=>h.lt z hz
 have n2:=st.nx
 have q1:=(kk1.get q hq2).trans hg
 have q2:=(st.get q (by omega) hq).trans q1
 have b1:=(K1.get H.nx lB).trans gB
 have b2:=(st.get H.nx (by omega) (fun e=>by have:=hS _ e;omega)).trans b1
 have hqb:q≠H.nx:=fun e=>by rw[e]at hq2;omega
 have hS':∀ z,S' z->S z\/H1.nx.toNat<=z.toNat:=st.sub
 have hq':¬ S' q:=fun e=>by rcases hS' q e with h1 | h1;exact hq h1;omega
 have hwsc:=B1.by.sc
 rw[fl]at hwsc
 have t3:=z0z q2 (o:=2) (vs:=[.int .i64 (.ofNat (n+(12+p.length)))]) rfl rfl
 obtain⟨H3,hH3⟩ :∃ H3,H3=H2.upd q (.cells (WC F nm (n+(12+p.length)) crc cnt dn) false false):=⟨_,rfl⟩
 have t3:z05 H2 q 2 [.int .i64 (.ofNat (n+(12+p.length)))]=some H3:=by rw[hH3];exact t3
 have q3:PT.get q H3.t=some (.cells (WC F nm (n+(12+p.length)) crc cnt dn) false false):=by rw[hH3];exact z0q
 have b3:PT.get H.nx H3.t=some (.cells [.int .i64 (.ofNat k),v] false false):=by rw[hH3,z0a hqb];exact b2
 have n3:H3.nx=H2.nx:=by rw[hH3];rfl
 have fin:∀ (o:AObj) (H4:AHeap),H4=H2.upd q o->RS H4 F (files.set x (files[x].1++fenc k p,files[x].2)) (dirs++[es]) np (ct+1) S'/\¬ S' q/\j21 N q S H S' H4:=fun o H4 e=>by
  subst e
  refine⟨R2.frame (fun z hz=>z0a (fun e=>hq' (e▸hz))) lr,hq',⟨by show _<=H2.nx.toNat;have:=kk1.nx;omega,fun z hz hs=>?_,fun z hz=>?_,fun z hz=>?_⟩⟩
  .rw[z0a (fun e=>hs (.inr e.symm)),st.get z (by have:=kk1.nx;omega) (fun e=>hs (.inl e)),kk1.get z (by omega)]
  .rcases hz with hz | hz
   .rcases hS' z hz with h1 | h1
    .exact .inl (.inl h1)
    .exact .inr (by have:=kk1.nx;omega)
   .exact .inl (.inr hz)
  .show _<H2.nx.toNat
   rcases hz with hz | rfl
   .exact st.top z hz
   .have:=kk1.nx;omega
 by_cases hk3:k=3
 .obtain⟨f1,f2,f3⟩:=fin _ H3 hH3
  refine⟨H3,S',?_,f1,by rw[if_pos hk3];exact q3,f2,f3⟩
  subst hk3
  refine C.c143.re (by conv=>lhs;reduce) ?_
  simp(maxDischargeDepth:=9)only[auX,reduceCtorEq,zA,aZ,Nat.reduceAnd,hn_g gB,z0c c1,hl_g q1,hl_g q2,hwsc,z0j c2,z0o (i:=n) (k:=12+p.length) (by omega),t3,hl_g b3]
 .have hv3:By H3 v p:=hv.other (fun z hz=>by
   have h5:=hv.1.blk_lt z hz
   obtain⟨h6,h7⟩:=hvs z hz
   rw[hH3,z0a (Ne.symm h7),st.get z (by have:=kk1.nx;omega) h6,kk1.get z h5]) (by rw[n3];have:=kk1.nx;omega)
  have c4:=y01 C hv3 (by omega) hcr
  have t4:=z0z q3 (o:=3) (vs:=[.int .u32 (.ofNat (z2j crc p))]) rfl rfl
  obtain⟨H4,hH4⟩ :∃ H4,H4=H3.upd q (.cells (WC F nm (n+(12+p.length)) (z2j crc p) cnt dn) false false):=⟨_,rfl⟩
  have t4:z05 H3 q 3 [.int .u32 (.ofNat (z2j crc p))]=some H4:=by rw[hH4];exact t4
  have uu:∀ (a b:AObj),(H2.upd q a).upd q b=H2.upd q b:=fun a b=>by
   show AHeap.mk _ _=AHeap.mk _ _
   congr 1
   exact PT.set_set _ _ _ _
  obtain⟨f1,f2,f3⟩:=fin _ H4 (by rw[hH4,hH3,uu])
  refine⟨H4,S',?_,f1,by rw[if_neg hk3,hH4];exact z0q,f2,f3⟩
  refine C.c143.re (by conv=>lhs;reduce) ?_
  simp(maxDischargeDepth:=9)only[auX,reduceCtorEq,zA,aZ,Nat.reduceAnd,hn_g gB,z0c c1,hl_g q1,hl_g q2,hl_g q3,hwsc,z0j c2,z0o (i:=n) (k:=12+p.length) (by omega),t3,hl_g b3,hk3,z0j c4,t4]
end
theorem j21.drop{N:Nat}{q:Pos}{S S1 S2:Pos->Prop}{H H1 H2:AHeap}(a:Step N S H S1 H1)(b:j21 N q S1 H1 S2 H2)(hq:N<=q.toNat) :Step N S H S2 H2:=by
 refine⟨Nat.le_trans a.nx b.nx,fun p hp hs=>?_,fun p hp=>?_,fun p hp=>b.top p (.inl hp)⟩
 .rw[b.get p hp (fun e=>by rcases e with e | e;rcases a.sub p e with h1 | h1;exact hs h1;omega;rw[e]at hp;omega),a.get p hp hs]
 .rcases b.sub p (.inl hp)with(h | h) | h
  .exact a.sub p h
  .exact .inr (by rw[h];exact hq)
  .exact .inr h
theorem y56{α:Type}{l:List α}{a:α}{h:l.length<(l++[a]).length} :(l++[a])[l.length]=a:=by simp
theorem z79{α:Type}{l:List α}{a b:α} :(l++[a]).set l.length b=l++[b]:=by simp
theorem k1t(c:Nat)(bs:List Nat) :z2j c bs<4294967296:=j39 c bs
section
variable{E:Env}(C:Ck E)
include C
theorem q4e{N:Nat}{H:AHeap}{F:Pos}{files:List (List Nat×Nat)}{dirs:List (List Ent)}{es:List Ent}{np ct:Nat}{S:Pos->Prop}(h:RS H F files (dirs++[es]) np ct S)(hN:N<=H.nx.toNat)(rb:RB files (dirs++[es]) np ct)(hct:ct<9999){nm:List Nat}(hn:IsNm nm){j:Nat}(h0:ratF nm es 0=.ofNat j){x:Nat}(hx:∃ hj:j<es.length,es[j].2=x){old new:List Nat}{sy:Nat}{files':List (List Nat×Nat)}(hxf:files[x]? = some (old,sy)){q:Pos}{n crc cnt:Nat}{dn:Bool}(hg:PT.get q H.t=some (.cells (WC F nm n crc cnt dn) false false))(hq:¬ S q)(hq2:q.toNat<H.nx.toNat)(hcr:crc<4294967296)(hnn:n<=1000000)
  {k:Nat} {v:AVal} {p:List Nat} (hv:By H v p) (hvs:∀ z,blk v z->¬ S z/\z≠q) (hk:z34 k) (hp:p.length<=1024) (hl:old.length+(12+p.length)<=1000000) (hnew:old++fenc k p=new) (hset:files.set x (new,sy)=files') {n' c':Nat} (hn':n+(12+p.length)=n') (hc':(if k=3 then crc else z2j crc p)=c') {ct':Nat} (hct':ct+1=ct') :
  ∃ H' S',z0f E 143 [.ptr q 0,.agg [.int .i64 (.ofNat k),v]] H (.int .i64 (.ofNat 0)) H'/\RS H' F files' (dirs++[es]) np ct' S'/\PT.get q H'.t=some (.cells (WC F nm n' c' cnt dn) false false)/\¬ S' q/\j21 N q S H S' H':=by
 obtain⟨hxl,e⟩:=List.getElem?_eq_some_iff.1 hxf
 have e1:files[x].1=old:=by rw[e]
 have e2:files[x].2=sy:=by rw[e]
 obtain⟨H',S',a,b,c,d⟩:=q4f C h hN rb hct hn h0 hx hxl hg hq hq2 hcr hnn hv hvs hk hp (by rw[e1];exact hl)
 rw[e1,e2,hnew,hset,hct']at b
 rw[hn',hc']at c
 exact⟨H',S',a,b,c,d⟩
theorem y3e{N:Nat}{H:AHeap}{F:Pos}{files:List (List Nat×Nat)}{dirs:List (List Ent)}{es:List Ent}{np ct:Nat}{S:Pos->Prop}(h:RS H F files (dirs++[es]) np ct S)(hN:N<=H.nx.toNat)(rb:RB files (dirs++[es]) np ct)(hct:ct<9000){nm:List Nat}(hn:IsNm nm)(h0:ratF nm es 0=.negSucc 0){j:Nat}{es2:List Ent}(he2:z1k es files.length nm=es2)(rb2:RB (files++[([],0)]) ((dirs++[es])++[es2]) (np+1) (ct+1))(h1:ratF nm es2 0=.ofNat j)(hx:∃ hj:j<es2.length,es2[j].2=files.length)
  {v:AVal} {p:List Nat} (hv:By H v p) (hvs:∀ z,blk v z->¬ S z) (hp:p.length<=1024) :
  ∃ H' S' q,z0f E 84 [.ptr F 0,.str nm,v] H (.tup [.ptr q 0,.int .i64 (.ofNat 0)]) H'/\RS H' F (files++[(fenc 1 p,0)]) ((dirs++[es])++[es2]) (np+1) (ct+2) S'/\PT.get q H'.t=some (.cells (WC F nm (12+p.length) (z2j 0 p) 0 false) false false)/\¬ S' q/\H.nx.toNat<=q.toNat/\q.toNat<H'.nx.toNat/\Step N S H S' H':=by
 have hsc:=hv.sc
 have d1:dirs.length<=900:=by have:=rb.d;simp at this;omega
 have e1:es.length<=1000:=by have:=rb.e es (by simp);omega
 obtain⟨H1,S1,c1,R1,st1⟩:=j8d C (N:=H.nx.toNat) h lr e1 d1 (by have:=rb.f;omega) (by have:=rb.p;omega) (by have:=rb.c;omega) hn h0
 rw[he2]at R1
 have n1:=st1.nx
 have kW:Keep H1.nx.toNat H1 (H1.new (.cells (WC F nm 0 0 0 false) false false)).2:=z0d
 have gW:PT.get H1.nx (H1.new (.cells (WC F nm 0 0 0 false) false false)).2.t=some (.cells (WC F nm 0 0 0 false) false false):=z0i
 have lW:H1.nx.toNat<(H1.new (.cells (WC F nm 0 0 0 false) false false)).2.nx.toNat:=z0h
 have S1lt:=fun z hz=>R1.lt z hz
 have hS:=fun z hz=>h.lt z hz
 have hv1:By (H1.new (.cells (WC F nm 0 0 0 false) false false)).2 v p:=(hv.other (H':=H1) (fun z hz=>st1.get z (hv.1.blk_lt z hz) (hvs z hz)) n1).keep kW lr
 obtain⟨H2,S2,c2,R2,g2,q2,st2⟩:=q4e C (N:=H.nx.toNat) (R1.keep kW lr) (by omega) rb2 (by omega) hn h1 hx (old:=[]) (new:=fenc 1 p) (sy:=0) (by simp) gW (fun e=>by have:=S1lt _ e;omega) lW (by omega) (by omega) hv1 (fun z hz=>⟨fun e=>by rcases st1.sub z e with h1 | h1;exact hvs z hz h1;have:=hv.1.blk_lt z hz;omega,fun e=>by have:=hv.1.blk_lt z hz;rw[e]at this;omega⟩) (k:=1) (.inl rfl) hp (by rw[List.length_nil];omega) (List.nil_append _) z79 (Nat.zero_add _) (if_neg (by decide)) (show ct+1+1=ct+2 by omega)
 have n2:=st2.nx
 refine⟨H2,S2,H1.nx,?_,R2,g2,q2,n1,by omega,?_⟩
 .refine C.c84.re (by conv=>lhs;reduce) ?_
  simp(maxDischargeDepth:=9)only[auX,hsc,show ¬ 1024<p.length by omega,z0c c1,z0c c2]
 .have a:Step H.nx.toNat S H S1 (H1.new (.cells (WC F nm 0 0 0 false) false false)).2:=⟨by omega,fun z hz hs=>by rw[kW.get z (by omega),st1.get z hz hs],st1.sub,fun z hz=>by have:=S1lt z hz;omega⟩
  exact(j21.drop a st2 n1).mono hN
theorem k2a{N:Nat}{H:AHeap}{F:Pos}{files:List (List Nat×Nat)}{dirs:List (List Ent)}{es:List Ent}{np ct:Nat}{S:Pos->Prop}(h:RS H F files (dirs++[es]) np ct S)(hN:N<=H.nx.toNat)(rb:RB files (dirs++[es]) np ct)(hct:ct<9999){nm:List Nat}(hn:IsNm nm){j:Nat}(h0:ratF nm es 0=.ofNat j){x:Nat}(hx:∃ hj:j<es.length,es[j].2=x)(hxl:x<files.length){q:Pos}{n crc cnt:Nat}(hg:PT.get q H.t=some (.cells (WC F nm n crc cnt false) false false))(hq:¬ S q)(hq2:q.toNat<H.nx.toNat)(hcr:crc<4294967296)(hnn:n<=1000000)(hcn:cnt<=1000000)
  {v:AVal} {p:List Nat} (hv:By H v p) (hvs:∀ z,blk v z->¬ S z/\z≠q) (hp:p.length<=1024) (hl:files[x].1.length+(12+p.length)<=1000000) :
  ∃ H' S',z0f E 148 [.ptr q 0,v] H (.int .i64 (.ofNat 0)) H'/\RS H' F (files.set x (files[x].1++fenc 2 p,files[x].2)) (dirs++[es]) np (ct+1) S'/\PT.get q H'.t=some (.cells (WC F nm (n+(12+p.length)) (z2j crc p) (cnt+1) false) false false)/\¬ S' q/\j21 N q S H S' H':=by
 have hsc:=hv.sc
 obtain⟨H2,S2,c2,R2,g2,q2,st2⟩:=q4e C h hN rb hct hn h0 hx (List.getElem?_eq_some_iff.2 ⟨hxl,rfl⟩) hg hq hq2 hcr hnn hv hvs (k:=2) (.inr (.inl rfl)) hp hl rfl rfl rfl (if_neg (by decide)) rfl
 have t2:=z0z g2 (o:=4) (vs:=[.int .i64 (.ofNat (cnt+1))]) rfl rfl
 refine⟨H2.upd q (.cells (WC F nm (n+(12+p.length)) (z2j crc p) (cnt+1) false) false false),S2,?_,R2.frame (fun z hz=>z0a (fun e=>q2 (e▸hz))) lr,z0q,q2,⟨st2.nx,fun z hz hs=>by rw[z0a (fun e=>hs (.inr e.symm)),st2.get z hz hs],st2.sub,st2.top⟩⟩
 refine C.c148.re (by conv=>lhs;reduce) ?_
 simp(maxDischargeDepth:=9)only[auX,zA,hl_g hg,hsc,z0c c2,hl_g g2,z0o (i:=cnt) (k:=1) (by omega),t2]
theorem q5v{N:Nat}{H:AHeap}{F:Pos}{files:List (List Nat×Nat)}{dirs:List (List Ent)}{es:List Ent}{np ct:Nat}{S:Pos->Prop}(h:RS H F files (dirs++[es]) np ct S)(hN:N<=H.nx.toNat)(rb:RB files (dirs++[es]) np ct)(hct:ct<9998){nm:List Nat}(hn:IsNm nm){j:Nat}(h0:ratF nm es 0=.ofNat j){x:Nat}(hx:∃ hj:j<es.length,es[j].2=x)(hxl:x<files.length){q:Pos}{n crc cnt:Nat}(hg:PT.get q H.t=some (.cells (WC F nm n crc cnt false) false false))(hq:¬ S q)(hq2:q.toNat<H.nx.toNat)(hcr:crc<4294967296)(hnn:n<=1000000)(hcn:cnt<=1000000)
  (hl:files[x].1.length+16<=1000000) :
  ∃ H' S',z0f E 90 [.ptr q 0,.bool true] H (.tup [.int .i64 (.ofNat (n+16)),.int .u32 (.ofNat crc),.int .i64 (.ofNat 0)]) H'/\RS H' F (files.set x (files[x].1++fenc 3 (b4 cnt),files[x].1.length+16)) (dirs++[es]) np (ct+2) S'/\j21 N q S H S' H':=by
 have c4:=y85 C (H:=H) cnt (by omega)
 have k4:Keep H.nx.toNat H (H.new (.cells (z0b (b4 cnt)) false false)).2:=z0d
 have L4:=(z5g (H:=H) (b4 cnt) (j2p _))
 rw[z0k]at L4
 have l4:H.nx.toNat<(H.new (.cells (z0b (b4 cnt)) false false)).2.nx.toNat:=z0h
 have hS:=fun z hz=>h.lt z hz
 have g4:=(k4.get q hq2).trans hg
 obtain⟨H2,S2,c2,R2,g2,q2,st2⟩:=q4f C (N:=N) (h.keep k4 lr) (by omega) rb (by omega) hn h0 hx hxl g4 hq (by omega) hcr hnn L4.by (fun z hz=>⟨fun e=>by have:=hS z e;have:=L4.1.2 z hz;omega,fun e=>by have:=L4.1.2 z hz;rw[e]at this;omega⟩) (k:=3) (.inr (.inr rfl)) (by show 4<=1024;omega) (by show _+(12+4)<=_;omega)
 rw[if_pos rfl,z0k]at g2
 have t2:=z0z g2 (o:=5) (vs:=[.bool true]) rfl rfl
 obtain⟨H3,hH3⟩ :∃ H3,H3=H2.upd q (.cells (WC F nm (n+16) crc cnt true) false false):=⟨_,rfl⟩
 have t2:z05 H2 q 5 [.bool true]=some H3:=by rw[hH3];exact t2
 have g3:PT.get q H3.t=some (.cells (WC F nm (n+16) crc cnt true) false false):=by rw[hH3];exact z0q
 have R3:=R2.frame (H':=H3) (fun z hz=>by rw[hH3];exact z0a (fun e=>q2 (e▸hz))) (by rw[hH3];exact lr)
 have n3:H3.nx=H2.nx:=by rw[hH3];rfl
 have n2:=st2.nx
 have d1:dirs.length<=900:=by have:=rb.d;simp at this;omega
 have e1:es.length<=1000:=by have:=rb.e es (by simp);omega
 have el:(fenc 3 (b4 cnt)).length=16:=by rw[z06,z0k]
 obtain⟨H4,S4,c5,R4,st4⟩:=y5s C (N:=H3.nx.toNat) R3 lr e1 d1 (by rw[List.length_set];have:=rb.f;omega) (by have:=rb.p;omega) (by have:=rb.c;omega) hn h0 hx (by rw[List.length_set];exact hxl) (by rw[List.getElem_set_self,List.length_append,el];omega)
 rw[List.getElem_set_self,List.set_set,List.length_append,el,show ct+1+1=ct+2 by omega]at R4
 have g5:=(st4.get q (by rw[n3];omega) q2).trans g3
 refine⟨H4,S4,?_,R4,?_⟩
 .refine C.c90.re (by conv=>lhs;reduce) ?_
  simp(maxDischargeDepth:=9)only[auX,bq,reduceCtorEq,zA,aZ,Nat.reduceAnd,hl_g hg,z0c c4,z0c c2,t2,hl_g g3,z0j c5,hl_g g5]
 .have n4:=st4.nx
  have k4n:=k4.nx
  rw[n3]at n4
  refine⟨by omega,fun z hz hs=>?_,fun z hz=>?_,fun z hz=>?_⟩
  .have hs2:¬ (S2 z\/z=q):=fun e=>by
    rcases st2.sub z e with h1 | h1
    .exact hs h1
    .omega
   rw[st4.get z (by rw[n3];omega) (fun e=>hs2 (.inl e)),hH3,z0a (fun e=>hs (.inr e.symm)),st2.get z hz hs,k4.get z (by omega)]
  .rcases hz with hz | hz
   .rcases st4.sub z hz with h1 | h1
    .exact st2.sub z (.inl h1)
    .exact .inr (by rw[n3]at h1;omega)
   .exact .inl (.inr hz)
  .rcases hz with hz | rfl
   .exact st4.top z hz
   .omega
end
theorem k24(H:AHeap)(b:Pos)(o:Nat) :eqV H (.one .ptr) (.ptr b o) .pnil=some false:=rfl
def LRS(S:Pos->Prop)(H:AHeap)(v:AVal)(uss:List (List Nat)) :Prop:=∃ zs:List (AVal×List Nat),zs.map (·.2)=uss/\Rd 1 H v zs.length (zs.map (·.1))/\(∀ p,blk v p->¬ S p)/\∀ z∈zs,By H z.1 z.2/\∀ p,blk z.1 p->¬ S p
theorem RB.last{files:List (List Nat×Nat)}{dirs:List (List Ent)}{np c c':Nat}{a b:List Nat×Nat}(r:RB (files++[a]) dirs np c)(hb:b.1.length<=1000000)(hc:c'<=10000) :RB (files++[b]) dirs np c' :=
 ⟨by have:=r.f;simp at this ⊢;omega,r.d,r.e,fun es he e hh=>by have:=r.x es he e hh;simp at this ⊢;omega,fun g hg=>by
  rcases List.mem_append.1 hg with h | h
  .exact r.b g (by simp[h])
  .obtain rfl:g=b:=by simpa using h
   exact hb,r.p,hc⟩
def z4a(hd:List Nat)(ds:List (List Nat))(i:Nat) :List Nat:=fenc 1 hd++(ds.take i).flatMap (fenc 2)
theorem y84(hd:List Nat)(ds:List (List Nat)) :z4a hd ds 0=fenc 1 hd:=by simp[z4a]
theorem q7l{hd:List Nat}{ds:List (List Nat)}{i:Nat}(hi:i<ds.length) :z4a hd ds i++fenc 2 ds[i]=z4a hd ds (i+1):=by
 unfold z4a
 rw[List.take_succ_eq_append_getElem hi,List.flatMap_append,List.append_assoc]
 simp
theorem q7m(hd:List Nat)(ds:List (List Nat)) :z4a hd ds ds.length++fenc 3 (b4 ds.length)=z3m hd ds:=by
 unfold z4a z3m
 rw[List.take_length,List.append_assoc]
theorem y2r(hd:List Nat)(ds:List (List Nat))(i:Nat) :(z4a hd ds i).length+16<=(z3m hd ds).length:=by
 have h1:ds.flatMap (fenc 2)=(ds.take i).flatMap (fenc 2)++(ds.drop i).flatMap (fenc 2):=by rw[<-List.flatMap_append,List.take_append_drop]
 unfold z4a z3m
 rw[h1]
 simp only[List.length_append,z06,z0k]
 omega
section
variable{E:Env}(C:Ck E)
include C
theorem y46{N:Nat}{H:AHeap}{F:Pos}{files:List (List Nat×Nat)}{es:List Ent}{ct:Nat}{S:Pos->Prop}(h:RS H F files [es] 0 ct S)(hN:N<=H.nx.toNat)(rb:RB files [es] 0 ct)(hct:ct<=4000){nm:List Nat}(hn:IsNm nm)(h0:ratF nm es 0=.negSucc 0){j:Nat}{es2:List Ent}(he2:z1k es files.length nm=es2)(rb2:RB (files++[([],0)]) ([es]++[es2]) 1 (ct+1))(h1:ratF nm es2 0=.ofNat j)(hx:∃ hj:j<es2.length,es2[j].2=files.length)
  {v l:AVal} {hd:List Nat} {ds:List (List Nat)} (hv:By H v hd) (hvs:∀ z,blk v z->¬ S z) (hp:hd.length<=1024) (hl:LRS S H l ds) (hds:∀ d∈ds,d.length<=1024) (hdn:ds.length<=4000) (hfl:(z3m hd ds).length<=1000000) :
  ∃ H' S',z0f E 96 [.ptr F 0,.str nm,v,l] H (.tup [.bool true,.int .i64 (.ofNat 0)]) H'/\RS H' F (files++[(z3m hd ds,(z3m hd ds).length)]) ([es]++[es2]) 1 (ct+(ds.length+4)) S'/\Step N S H S' H':=by
 obtain⟨zs,rfl,hlr,hls,hz⟩:=hl
 obtain⟨H1,S1,q,c1,R1,g1,q1,q2,q3,st1⟩:=y3e C (N:=H.nx.toNat) (dirs:=[]) h lr rb (by omega) hn h0 he2 rb2 h1 hx hv hvs hp
 have c4:∀ (H2:AHeap) (S2:Pos->Prop) (crc:Nat),RS H2 F (files++[(z4a hd (zs.map (·.2)) zs.length,0)]) ([es]++[es2]) 1 (ct+2+zs.length) S2->PT.get q H2.t=some (.cells (WC F nm (z4a hd (zs.map (·.2)) zs.length).length crc zs.length false) false false)->¬ S2 q->q.toNat<H2.nx.toNat->crc<4294967296->Step H.nx.toNat S H S2 H2->∃ n c H' S',z0f E 90 [.ptr q 0,.bool true] H2 (.tup [.int .i64 (.ofNat n),.int .u32 (.ofNat c),.int .i64 (.ofNat 0)]) H'/\RS H' F (files++[(z3m hd (zs.map (·.2)),(z3m hd (zs.map (·.2))).length)]) ([es]++[es2]) 1 (ct+((zs.map (·.2)).length+4)) S'/\Step N S H S' H':=by
  intro H2 S2 crc R2 g2 h5 h6 h7 st2
  have le:=y2r hd (zs.map (·.2)) zs.length
  have ee:=q7m hd (zs.map (·.2))
  rw[List.length_map]at ee
  obtain⟨H3,S3,c3,R3,st3⟩:=q5v C (N:=H.nx.toNat) (dirs:=[es]) R2 st2.nx (rb2.last (by show(z4a hd (zs.map (·.2)) zs.length).length<=_;omega) (by simp at hdn;omega)) (by simp at hdn;omega) hn h1 hx (by simp) g2 h5 h6 h7 (by omega) (by simp at hdn;omega) (by rw[y56];show(z4a hd (zs.map (·.2)) zs.length).length+16<=_;omega)
  have e1:(files++[(z4a hd (zs.map (·.2)) zs.length,0)])[files.length]'(by simp)=(z4a hd (zs.map (·.2)) zs.length,0):=by simp
  have e3:(z4a hd (zs.map (·.2)) zs.length).length+16=(z3m hd (zs.map (·.2))).length:=by rw[<-ee,List.length_append,z06,z0k]
  have e4:ct+2+zs.length+2=ct+((zs.map (·.2)).length+4):=by rw[List.length_map];omega
  simp only[e1,e3,ee,z79,e4]at R3
  exact⟨_,_,H3,S3,c3,R3,(j21.drop st2 st3 q2).mono hN⟩
 suffices hh:∃ v' H',z0f E 96 [.ptr F 0,.str nm,v,l] H v' H'/\(v'=.tup [.bool true,.int .i64 (.ofNat 0)]/\∃ S',RS H' F (files++[(z3m hd (zs.map (·.2)),(z3m hd (zs.map (·.2))).length)]) ([es]++[es2]) 1 (ct+((zs.map (·.2)).length+4)) S'/\Step N S H S' H')from by
  obtain⟨_,H',hc,rfl,S',a,b⟩:=hh
  exact⟨H',S',hc,a,b⟩
 refine C.c96.rr (by conv=>lhs;reduce) ?_
 simp(maxDischargeDepth:=9)only[auX,z0c c1,k24]
 refine W.loopI (fun k t H2=>∃ (i:Nat) (S2:Pos->Prop) (crc:Nat),i+k=zs.length/\PT.get (.o (.o .h)) t=some (l)/\PT.get (.i (.i (.o .h))) t=some (.ptr q 0)/\PT.get (.o (.i (.i .h))) t=some (.int .i64 (.ofNat i))/\RS H2 F (files++[(z4a hd (zs.map (·.2)) i,0)]) ([es]++[es2]) 1 (ct+2+i) S2/\PT.get q H2.t=some (.cells (WC F nm (z4a hd (zs.map (·.2)) i).length crc i false) false false)/\¬ S2 q/\q.toNat<H2.nx.toNat/\crc<4294967296/\Step H.nx.toNat S H S2 H2) ?_ zs.length _ _ ⟨0,S1,z2j 0 hd,by omega,rfl,rfl,rfl,by rw[y84];exact R1,by rw[y84,z06];exact g1,q1,q3,k1t _ _,st1⟩
 rintro k t H2 ⟨i,S2,crc,hi,t3,t10,t13,R2,g2,h5,h6,h7,st2⟩
 have lr2:=hlr.other (H':=H2) (fun p hp=>st2.get p (hlr.blk_lt p hp) (hls p hp)) st2.nx
 by_cases hk:k=0
 .obtain rfl:i=zs.length:=by omega
  obtain⟨n,c,H3,S3,c3,R3,st3⟩:=c4 H2 S2 crc R2 g2 h5 h6 h7 st2
  simp(maxDischargeDepth:=9)only[auX,↓reduceIte,t3,t10,t13,lr2.len,show ¬ zs.length<zs.length by omega,z0c c3]
  exact⟨S3,R3,st3⟩
 .have hi2:i<zs.length:=by omega
  obtain⟨bi,oi,i1,i2⟩:=Rd.at1 lr2 (i:=i) (x:=zs[i].1) (by simp[hi2])
  obtain⟨z1,z2⟩:=hz zs[i] (List.getElem_mem hi2)
  have z3:By H2 zs[i].1 zs[i].2:=z1.other (fun p hp=>st2.get p (z1.1.blk_lt p hp) (z2 p hp)) st2.nx
  have zl:zs[i].2.length<=1024:=hds _ (List.mem_map.2 ⟨zs[i],List.getElem_mem hi2,rfl⟩)
  have le:=y2r hd (zs.map (·.2)) (i+1)
  have ps:=q7l (hd:=hd) (ds:=zs.map (·.2)) (i:=i) (by simpa using hi2)
  rw[List.getElem_map]at ps
  have hln:(z4a hd (zs.map (·.2)) i).length+(12+zs[i].2.length)=(z4a hd (zs.map (·.2)) (i+1)).length:=by rw[<-ps,List.length_append,z06]
  simp at hdn
  obtain⟨H3,S3,c3,R3,g3,q5,st3⟩:=k2a C (N:=H.nx.toNat) (dirs:=[es]) R2 st2.nx (rb2.last (by show(z4a hd (zs.map (·.2)) i).length<=_;omega) (by omega)) (by omega) hn h1 hx (by simp) g2 h5 h6 h7 (by omega) (by omega) z3 (fun p hp=>⟨fun e=>by
   rcases st2.sub p e with h8 | h8
   .exact z2 p hp h8
   .have:=z1.1.blk_lt p hp;omega,fun e=>by have:=z1.1.blk_lt p hp;rw[e]at this;omega⟩) zl (by rw[y56];show(z4a hd (zs.map (·.2)) i).length+_<=_;omega)
  have e1:(files++[(z4a hd (zs.map (·.2)) i,0)])[files.length]'(by simp)=(z4a hd (zs.map (·.2)) i,0):=by simp
  simp only[e1,ps,z79,Nat.add_assoc]at R3
  rw[hln]at g3
  have n3:=st3.nx
  simp(maxDischargeDepth:=9)only[auX,t3,t10,t13,lr2.len,hi2,i1,i2,z0c c3,z0o (i:=i) (k:=1) (by omega)]
  trace_state
  exact⟨k-1,by omega,i+1,S3,z2j crc zs[i].2,by omega,rfl,by simp only[Nat.add_assoc];exact R3,g3,q5,by omega,k1t _ _,j21.drop st2 st3 q2⟩
end
theorem y42{a b:List Nat}(h:a.length+b.length<=9223372036854775807) :z0l .add (.str a) (.str b)=some (.str (a++b)):=by
 show j3c .add a b=_
 unfold j3c
 rw[show Nat.ble (Nat.add a.length b.length) 9223372036854775807=true from z4u h]
section
variable{E:Env}(C:Ck E)
include C
theorem j1r{N:Nat}{H:AHeap}{F:Pos}{files:List (List Nat×Nat)}{es:List Ent}{ct:Nat}{S:Pos->Prop}(h:RS H F files [es] 0 ct S)(hN:N<=H.nx.toNat)(rb:RB files [es] 0 ct)(hct:ct<=4000){nm:List Nat}(hn:IsNm ([116,46]++nm))(hnm:IsNm nm)(h0:ratF ([116,46]++nm) es 0=.negSucc 0){j:Nat}{es2 es3:List Ent}(he2:z1k es files.length ([116,46]++nm)=es2)(he3:z1k es2 files.length nm=es3)(rb2:RB (files++[([],0)]) ([es]++[es2]) 1 (ct+1))(h1:ratF ([116,46]++nm) es2 0=.ofNat j)(hx:∃ hj:j<es2.length,es2[j].2=files.length)(h3:es3.length<=20)
  {v l:AVal} {hd:List Nat} {ds:List (List Nat)} (hv:By H v hd) (hvs:∀ z,blk v z->¬ S z) (hp:hd.length<=1024) (hl:LRS S H l ds) (hds:∀ d∈ds,d.length<=1024) (hdn:ds.length<=4000) (hfl:(z3m hd ds).length<=1000000) :
  ∃ H' S',z0f E 43 [.ptr F 0,.str nm,v,l] H (.int .i64 (.ofNat 0)) H'/\RS H' F (files++[(z3m hd ds,(z3m hd ds).length)]) [es3] 0 (ct+(ds.length+6)) S'/\Step N S H S' H':=by
 have hsc:=hv.sc
 obtain⟨H1,S1,c1,R1,st1⟩:=y46 C (N:=N) h hN rb hct hn h0 he2 rb2 h1 hx hv hvs hp hl hds hdn hfl
 have n1:=st1.nx
 have l2:es2.length<=1000:=by have:=rb2.e es2 (by simp);omega
 obtain⟨H2,S2,c2,R2,st2⟩:=y6o C (N:=N) (dirs:=[es]) R1 (by omega) l2 (by simp) (by have:=rb2.f;simp at this ⊢;omega) (by omega) (by omega) hn h1 hx (by simp) hnm
 rw[he3]at R2
 have n2:=st2.nx
 obtain⟨H3,S3,c3,R3,st3⟩:=z84 C (N:=N) (dirs:=[es]++[es2]) R2 (by omega) (by omega) (by simp) (by have:=rb2.f;simp at this ⊢;omega) (by omega) (by omega)
 rw[show ct+(ds.length+4)+1+1=ct+(ds.length+6)by omega]at R3
 refine⟨H3,S3,?_,R3,(st1.trans st2).trans st3⟩
 refine C.c43.re (by conv=>lhs;reduce) ?_
 simp(maxDischargeDepth:=9)only[auX,y42 (a:=[116,46]) (b:=nm) (by have:=hnm.2.1;simp;omega),z0c c1,z0c c2,z0c c3]
end
theorem sl_d{t:PT AVal}{x y:AOpnd}{i:Nat}(hi:i=0\/i=1)(hx:x.ev t=.int .i64 (.ofNat i))(hy:y.ev t=.int .i64 (.ofNat (i+1))) :z0w t .str (.str [48,49,50,51,52,53,54,55,56,57,97,98,99,100,101,102,103,104,105,106,107,108,109,110,111,112,113,114,115,116,117,118,119,120,121,122]) (some x) (some y) none=some (.str [48+i]):=by
 simp only[z0w,List.length_cons,List.length_nil,Nat.reduceAdd,bo_s hy (show i+1<=36 by omega),bo_s hx (show i<=i+1 by omega)]
 rcases hi with rfl | rfl<;>rfl
theorem q76{m:Nat}(hm:m<4294967296) :z0b (b4 m)=[.int .u8 (.ofNat (m/16777216)),.int .u8 (.ofNat (m/65536%256)),.int .u8 (.ofNat (m/256%256)),.int .u8 (.ofNat (m%256))]:=by
 simp only[b4,z0b]
 rw[Nat.mod_eq_of_lt (show m/16777216<256 by omega)]
section
variable{E:Env}(C:Ck E)
include C
theorem j5m{H:AHeap}(m:Nat)(hm:m<4294967296) :z0f E 144 [.int .i64 (.ofNat m)] H (.sl H.nx 0 4 4 0) (H.new (.cells (z0b (b4 m)) false false)).2:=by
 refine C.c144.re (by conv=>lhs;reduce) ?_
 simp(maxDischargeDepth:=9)only[auX,shs,z0b,b4]
theorem z3s{N:Nat}{H:AHeap}{v:AVal}{us:List Nat}(h:Bo N H v us)(hN:N<=H.nx.toNat){m:Nat}(hm:m<4294967296)(hl:us.length<=100000000) :∃ w H',z0f E 210 [v,.int .i64 (.ofNat m)] H w H'/\Bo N H' w (us++b4 m)/\Keep N H H':=by
 have hs:=h.by.sc
 have k4:Keep H.nx.toNat H (H.new (.cells (z0b (b4 m)) false false)).2:=z0d
 have L4:=(z5g (H:=H) (b4 m) (j2p _)).by
 rw[z0k]at L4
 have n4:=k4.nx
 obtain⟨w,H2,a2,B2,K2⟩:=z7p (h.keep k4 lr) (by omega) L4 (by rw[z0k];omega)
 refine⟨w,H2,?_,B2,(k4.mono hN).trans K2⟩
 simp only[z0b,b4]at a2
 refine C.c210.re (by conv=>lhs;reduce) ?_
 simp(maxDischargeDepth:=9)only[auX,shs,z0r a2]
theorem z8p{N:Nat}{H:AHeap}{v:AVal}{us:List Nat}(h:Bo N H v us)(hN:N<=H.nx.toNat){m:Nat}(hm:m<4294967296)(hl:us.length<=100000000) :∃ w H',z0f E 94 [v,.int .i64 (.ofNat m)] H w H'/\Bo N H' w (us++b4 m)/\Keep N H H':=by
 have hs:=h.by.sc
 have k4:Keep H.nx.toNat H (H.new (.cells (z0b (b4 m)) false false)).2:=z0d
 have L4:=(z5g (H:=H) (b4 m) (j2p _)).by
 rw[z0k]at L4
 have n4:=k4.nx
 obtain⟨w,H2,a2,B2,K2⟩:=z7p (h.keep k4 lr) (by omega) L4 (by rw[z0k];omega)
 refine⟨w,H2,?_,B2,(k4.mono hN).trans K2⟩
 simp only[z0b,b4]at a2
 refine C.c94.re (by conv=>lhs;reduce) ?_
 simp(maxDischargeDepth:=9)only[auX,shs,z0r a2]
theorem y6s{H:AHeap}{a b n:Nat}(h1:a<b)(h2:b<=n)(h3:n<=16777216) :z0f E 83 [.int .i64 (.ofNat a),.int .i64 (.ofNat b),.int .i64 (.ofNat n)] H (.bool true) H:=by
 refine C.c83.re (by conv=>lhs;reduce) ?_
 simp(maxDischargeDepth:=9)only[auX,bq,eq_true (show 0<=a by omega),eq_true h1,eq_true h2,eq_true h3]
theorem q2a{H:AHeap}{a b n:Nat}(h1:a<4294967296)(h2:b<4294967296)(h3:n<4294967296) :∃ w H',z0f E 85 [.int .i64 (.ofNat a),.int .i64 (.ofNat b),.int .i64 (.ofNat n)] H w H'/\Bo H.nx.toNat H' w ([115]++b4 a++b4 b++b4 n)/\Keep H.nx.toNat H H':=by
 have k0:Keep H.nx.toNat H (H.new (.cells (z0b [115]) false false)).2:=z0d
 have B0:Bo H.nx.toNat (H.new (.cells (z0b [115]) false false)).2 (.sl H.nx 0 1 1 0) [115]:=z5g (H:=H) [115] (by simp)
 generalize hX:(H.new (.cells (z0b [115]) false false)).2=X at *
 have n0:=k0.nx
 have step:∀ (Y:AHeap) (v:AVal) (us:List Nat) (m:Nat),Bo H.nx.toNat Y v us->H.nx.toNat<=Y.nx.toNat->us.length<=1000->∃ w Z,z09 (Y.new (.cells (z0b (b4 m)) false false)).2 1 1 v (.sl Y.nx 0 4 4 0)=some (w,Z)/\Bo H.nx.toNat Z w (us++b4 m)/\Keep H.nx.toNat Y Z:=fun Y v us m B hn hl=>by
  have k4:Keep Y.nx.toNat Y (Y.new (.cells (z0b (b4 m)) false false)).2:=z0d
  have L4:=(z5g (H:=Y) (b4 m) (j2p _)).by
  rw[z0k]at L4
  have n4:=k4.nx
  obtain⟨w,Z,a2,B2,K2⟩:=z7p (B.keep k4 lr) (by omega) L4 (by rw[z0k];omega)
  exact⟨w,Z,a2,B2,(k4.mono hn).trans K2⟩
 obtain⟨w1,Y1,a1,B1,K1⟩:=step X _ _ a B0 n0 (by simp)
 obtain⟨w2,Y2,a2,B2,K2⟩:=step Y1 _ _ b B1 (by have:=K1.nx;omega) (by simp[z0k])
 obtain⟨w3,Y3,a3,B3,K3⟩:=step Y2 _ _ n B2 (by have:=K1.nx;have:=K2.nx;omega) (by simp[z0k])
 have s1:=B1.by.sc
 have s2:=B2.by.sc
 refine⟨w3,Y3,?_,B3,((k0.trans K1).trans K2).trans K3⟩
 subst hX
 have e0:z0b [115]=[.int .u8 (.ofNat 115)]:=rfl
 rw[e0]at a1
 refine C.c85.re (by conv=>lhs;reduce) ?_
 simp(maxDischargeDepth:=9)only[auX,z0c (j5m C a h1),z0c (j5m C b h2),z0c (j5m C n h3),z0r a1,z0r a2,z0r a3]
theorem y2g{H:AHeap}{i:Nat}(hi:i=0\/i=1) :z0f E 86 [.int .i64 (.ofNat i)] H (.str [48+i]) H:=by
 have c1:z0f E 271 [.int .i64 (.ofNat i)] H (.str [48+i]) H:=by
  refine C.c271.re (by conv=>lhs;reduce) ?_
  simp(maxDischargeDepth:=9)only[auX,eq_true (show i<10 by omega),z0o (i:=i) (k:=1) (by omega),sl_d hi]
 have c2:z0f E 207 [.int .i64 (.ofNat i),.int .i64 (.ofNat 10)] H (.str [48+i]) H:=by
  refine C.c207.re (by conv=>lhs;reduce) ?_
  simp(maxDischargeDepth:=9)only[auX,bq,eq_true (show 0<=i by omega),eq_true (show i<100 by omega),z0c c1]
 have c3:z0f E 145 [.int .i64 (.ofNat i)] H (.str [48+i]) H:=by
  refine C.c145.re (by conv=>lhs;reduce) ?_
  simp(maxDischargeDepth:=9)only[auX,z0c c2]
 refine C.c86.re (by conv=>lhs;reduce) ?_
 simp(maxDischargeDepth:=9)only[auX,z0c c3]
theorem j9i{H:AHeap} :z0f E 44 [.int .i64 (.ofNat 1)] H (.str [99,111,114,101,46,49]) H:=by
 refine C.c44.re (by conv=>lhs;reduce) ?_
 simp(maxDischargeDepth:=9)only[auX,Nat.reduceAdd,z0c (y2g C (H:=H) (.inr rfl)),y42 (a:=[99,111,114,101,46]) (b:=[49]) (by decide),List.cons_append,List.nil_append]
theorem j9j{H:AHeap} :z0f E 61 [.int .i64 (.ofNat 1)] H (.str [99,111,114,101,46,49]) H:=by
 refine C.c61.re (by conv=>lhs;reduce) ?_
 simp(maxDischargeDepth:=9)only[auX,Nat.reduceAdd,z0c (y2g C (H:=H) (.inr rfl)),y42 (a:=[99,111,114,101,46]) (b:=[49]) (by decide),List.cons_append,List.nil_append]
theorem q6c{H:AHeap} :z0f E 36 [.int .i64 (.ofNat 1),.int .i64 (.ofNat 0)] H (.str [115,46,49,46,48]) H:=by
 refine C.c36.re (by conv=>lhs;reduce) ?_
 simp(maxDischargeDepth:=9)only[auX,Nat.reduceAdd,aZ,z0c (y2g C (H:=H) (.inr rfl)),z0c (y2g C (H:=H) (.inl rfl)),y42 (a:=[115,46]) (b:=[49]) (by decide),y42 (a:=[115,46,49]) (b:=[46]) (by decide),y42 (a:=[115,46,49,46]) (b:=[48]) (by decide),List.cons_append,List.nil_append]
end
end Go.Am
