/- Part of the proof: AmWrite4, AmWrite5, AmWrite6, AmWrite7. -/
import Derived.Test.YtaogphcjlkeakaaGreatDoorAm8
set_option linter.unusedSimpArgs false
set_option linter.unusedVariables false
section
namespace Go.Am
open Go Go.RowKit
section
variable {P:Program} {T:Tys} {B:Nat} {φ:Emb} {H:AHeap} {w:World} {nt:Nat} {t:PT AVal} {a:Act}
def DoesV (P:Program) (T:Tys) (B:Nat) (φ:Emb) (H:AHeap) (w:World) (m:Sem Value) (v:AVal) (H':AHeap) :Prop :=
 ∃ u w' φ',m.run P w = .ok u w'∧VRel φ' v u∧Sim T B φ H w φ' H' w'
theorem run_lenOf {x:AVal} {u:Value} (hu:VRel φ x u) {n:Nat} (h:lenA x = some n) :(Builtin.lenOf u).run P w = .ok n w:=by
 unfold lenA at h
 split at h
 ·cases h; have e:u = .slice none 0 0:=hu; simp [e,Builtin.lenOf]
 ·cases h; rw [(VRel.str_inv hu).1]; simp [Builtin.lenOf,strV_size]
 ·cases h; obtain ⟨y,a',c',_,e,_⟩:=hu; simp [e,Builtin.lenOf]
 ·cases h
theorem lsub_zero {l:List AVal} {o:Nat} {r:List AVal} (h:lsub l o 0 = some r) :r = []:=by
 rw [(lsub_eq h).1]; simp
theorem firstN_ok (hH:HRel T B φ H w) {x:AVal} {u:Value} (hu:VRel φ x u) {sz n m:Nat} {l:List AVal} (hn:lenA x = some m) (hle:n≤m) (h:firstN H sz n x = some l) :
  ∃ us:Array Value,(Builtin.firstCells sz n u).run P w = .ok us w∧LRel φ l us.toList:=by
 unfold firstN at h
 split at h
 ·cases h
  have e:u = .slice none 0 0:=hu
  exact ⟨#[],by simp [e,Builtin.firstCells],rfl⟩
 ·rename_i s
  cases h
  obtain ⟨e,hlt⟩:=VRel.str_inv hu
  refine ⟨((strV s).extract 0 n).data.map fun b=>.int .u8 b.toNat,by simp [e,Builtin.firstCells],?_⟩
  rw [strV_extract s 0 n (Nat.zero_le _)]
  have:=bytes_rel (φ:=φ) (subStr s 0 n) (fun y hy=>hlt y (List.mem_of_mem_take (by simpa [subStr] using hy)))
  simpa [subStr] using this
 ·rename_i b o len cap k
  simp [lenA] at hn
  subst hn
  obtain ⟨y,a',c',hy,e,e1,e2,e3⟩:=hu
  by_cases h0:n = 0
  ·subst h0
   have hl:l = []:=by
    unfold hloadN at h
    split at h
    ·exact lsub_zero (o:=o) (by simpa using h)
    ·cases h
   exact ⟨#[],by simp [e,Builtin.firstCells,loadCells,loadCellsFrom],by rw [hl]; rfl⟩
  ·have ha:a' = ⟨y.c,y.s + o,none⟩:=by
    rcases e3 with ⟨_,_,h | h⟩ | ⟨_,h,_⟩ | ⟨_,h⟩
    ·exact h
    ·omega
    ·exact h
    ·omega
   obtain ⟨us,g1,g2,g3,g4⟩:=hloadN_ok (P:=P) hH hy h
   exact ⟨us.toArray,by rw [e,ha]; simpa [Builtin.firstCells] using g4,by simpa using g2⟩
 ·cases h
theorem firstCells_zero {x:AVal} {u:Value} (hu:VRel φ x u) {n:Nat} (h:lenA x = some n) {sz:Nat} :∃ cs:Array Value,(Builtin.firstCells sz 0 u).run P w = .ok cs w:=by
 unfold lenA at h
 split at h
 ·have e:u = .slice none 0 0:=hu; exact ⟨#[],by simp [e,Builtin.firstCells]⟩
 ·rw [(VRel.str_inv hu).1]; exact ⟨_,by simp [Builtin.firstCells]; rfl⟩
 ·obtain ⟨y,a',c',_,e,_⟩:=hu; exact ⟨#[],by simp [e,Builtin.firstCells,loadCells,loadCellsFrom]⟩
 ·cases h
theorem firstN_zero {sz:Nat} {x:AVal} {l:List AVal} (h:firstN H sz 0 x = some l) :l = []:=by
 unfold firstN at h
 split at h
 ·cases h; rfl
 ·cases h; simp [cellsOfBytes]
 ·unfold hloadN at h
  split at h
  ·exact lsub_zero (by simpa using h)
  ·cases h
 ·cases h
theorem srcCells_ok {sz n:Nat} {x:AVal} {l:List AVal} (h:srcCells H sz x = some (n,l)) :lenA x = some n∧firstN H sz n x = some l:=by
 unfold srcCells at h
 split at h
 ·cases h; exact ⟨rfl,rfl⟩
 ·split at h
  ·cases h; exact ⟨rfl,by simp [firstN]⟩
  ·cases h
 ·split at h
  ·rename_i hl
   cases h
   exact ⟨rfl,hl⟩
  ·cases h
 ·cases h
theorem srcCells_str {sz n:Nat} {s:List Nat} {l:List AVal} (h:srcCells H sz (.str s) = some (n,l)) :sz = 1:=by
 simp only [srcCells] at h
 split at h
 ·exact Nat.eq_of_beq_eq_true ‹_›
 ·cases h
theorem sl_addr {b:Pos} {o len cap k:Nat} {u:Value} (h:VRel φ (.sl b o len cap k) u) :
  ∃ y a' cap',φ b = some y∧u = .slice (some a') len cap'∧len≤cap∧cap≤cap'∧(a' = ⟨y.c,y.s + o,none⟩∨cap = 0)∧(k = 0→cap' = cap) ∧
   (k ≠ 0→0 < cap'→a' = ⟨y.c,y.s + o,none⟩∧y.s + o + cap' * k≤y.k∧cap'≤9223372036854775807):=by
 obtain ⟨y,a',cap',h1,h2,h3,h4,h5⟩:=h
 refine ⟨y,a',cap',h1,h2,h3,h4,?_,?_,?_⟩
 ·rcases h5 with ⟨_,_,h⟩ | ⟨_,h,_⟩ | ⟨_,h⟩
  ·exact h
  ·exact .inl h
  ·exact .inr (by omega)
 ·intro hk
  rcases h5 with ⟨_,h,_⟩ | ⟨h,_⟩ | ⟨h,_⟩
  ·exact h
  ·exact absurd hk h
  ·exact absurd hk h
 ·intro hk hc
  rcases h5 with ⟨h,_⟩ | ⟨_,h,h'⟩ | ⟨_,h⟩
  ·exact absurd h hk
  ·exact ⟨h,h'⟩
  ·omega
def copyA (H:AHeap) (sz nn:Nat) (d s:AVal) :ARes :=
 match d with
 | .snil=>some (.int .i64 (.ofNat 0),H)
 | .sl b o len _ _ =>
  match firstN H sz (Nat.min nn len) s with
  | some l=>match hstoreN H b o l with
   | some h'=>some (.int .i64 (.ofNat (Nat.min nn len)),h')
   | none=>none
  | none=>none
 | _=>none
theorem does_copy (hT:TOk T P) (hH:HRel T B φ H w) {ats:Array TypeId} {ty ty2 e:TypeId} {xs:Array Value} {d s:AVal} {ud us:Value} (h0:ats[0]? = some ty) (hx0:xs[0]? = some ud) (hx1:xs[1]? = some us)
  (hd:VRel φ d ud) (hs:VRel φ s us) (hty:T.und ty = some (.slice e)) {sz:Nat} (hsz:T.size e = some sz) {v:AVal} {H':AHeap} {nn:Nat} (hn:lenA s = some nn)
  (h:copyA H sz nn d s = some (v,H')) :DoesV P T B φ H w (Builtin.copy_ ats ty2 xs) v H':=by
 have hl:=run_lenOf (P:=P) (w:=w) hs hn
 unfold copyA at h
 cases d with
 | snil =>
  cases h
  have e1:ud = .slice none 0 0:=hd
  obtain ⟨cs,g1⟩:=firstCells_zero (P:=P) (w:=w) hs hn (sz:=sz)
  exact ⟨goInt 0,w,φ,by simp [Builtin.copy_,h0,hx0,hx1,hT.run_und hty,e1,hl,hT.run_size hsz,g1],rfl,Sim.refl hH⟩
 | sl b o len cap k =>
  simp only at h
  split at h
  ·rename_i l hf
   split at h
   ·rename_i h' hst
    cases h
    obtain ⟨y,a',cap',e1,e2,e3,e4,e5,e6,e7⟩:=sl_addr hd
    obtain ⟨cs,g1,g2⟩:=firstN_ok (P:=P) hH hs hn (Nat.min_le_left _ _) hf
    obtain ⟨w',g3,g4⟩:=hstoreN_ok (P:=P) hH e1 hst g2
    have g5:(storeCells a' cs.toList).run P w = .ok () w':=by
     rcases e5 with e5 | e5
     ·rw [e5]; exact g3
     ·have hl0:len = 0:=by omega
      have hc:cs.toList = []:=by
       subst hl0
       have:l = []:=firstN_zero (by simpa using hf)
       rw [this] at g2
       exact g2
      rw [hc] at g3 ⊢
      exact g3
    exact ⟨goInt (Nat.min nn len),w',φ,by simp [Builtin.copy_,h0,hx0,hx1,hT.run_und hty,e2,hl,hT.run_size hsz,g1,g5],rfl,g4⟩
   ·cases h
  ·cases h
 | _=>simp at h
theorem does_delete (hT:TOk T P) (hH:HRel T B φ H w) {ats:Array TypeId} {xs:Array Value} {ty kt e ty2:TypeId} {um uk:Value} (h0:ats[0]? = some ty) (hx0:xs[0]? = some um) (hx1:xs[1]? = some uk) {b:Pos} {kv:AVal} (hmv:VRel φ (.map b) um) (hkv:VRel φ kv uk)
  (hs:T.und ty = some (.map kt e)) {q:EqK} (hk:keyKind T kt = some q) {es es':List (AVal × AVal)} (hb:PT.get b H.t = some (.map es)) (hfit:keyFit q kv = true) (h:dropKey H q kv es = some es') :
  DoesV P T B φ H w (Builtin.delete_ ats ty2 xs) .undef (H.upd b (.map es')):=by
 obtain ⟨p,hp,em⟩:=hmv
 obtain ⟨arr,clock,g1,g2,g3⟩:=hH.obj b _ p hb hp
 have hg:=run_getObj (P:=P) g1 (by simp)
 have fin:∀ ob,ORel T φ B { w with heap:=w.heap.setIfInBounds p.c ob } (.map es') p→Sim T B φ H w φ (H.upd b (.map es')) { w with heap:=w.heap.setIfInBounds p.c ob }:=by
  intro ob ho
  have hother:∀ c,c ≠ p.c→({ w with heap:=w.heap.setIfInBounds p.c ob } :World).heap[c]? = w.heap[c]?:=fun c hc=>by
   show (w.heap.setIfInBounds p.c ob)[c]? = _
   rw [Array.getElem?_setIfInBounds_ne (fun e=>hc e.symm)]
  exact Sim.turn hH hp (by rw [hb]; simp) (Below.of_one g3 rfl rfl rfl (by simp) hother) (by simp) hother ho
 have hin:p.c < w.heap.size:=(hH.low b p hp).2
 rcases dropKey_eq h with ⟨hf,rfl⟩ | ⟨v',hf⟩
 ·obtain ⟨i1,i2⟩:=lookup_find hT hH g2 hk hkv hf
  refine ⟨_,_,φ,?_,VRel.undef,fin (.map arr clock) ⟨arr,clock,by show (w.heap.setIfInBounds p.c _)[p.c]? = _; simp [hin],g2,g3⟩⟩
  simp [Builtin.delete_,h0,hx0,hx1,hT.run_und hs,em,hg,keyKind_check hT hk hkv hfit,i1,run_setObjM _ g1]
  rfl
 ·obtain ⟨E1,e0,E2,fs1,kk,fs2,l1,l2,i1,i2,i3,i4,i5,i6,i7,i8,i9,i10,i11,i12⟩:=lookup_find hT hH g2 hk hkv hf
  rw [i5,dropKey_at i6 (i5 ▸ hf)] at h
  have h:=Option.some.inj h
  rw [← h] at fin ⊢
  have herase:arr.eraseIdxIfInBounds E1.length = (E1 ++ E2).toArray:=by
   have hlt:E1.length < arr.size:=by
    have:=congrArg List.length i1
    simp at this; omega
   apply Array.ext'
   rw [Array.eraseIdxIfInBounds,dif_pos hlt,Array.toList_eraseIdx,i1]
   simp [List.eraseIdx_append_of_length_le]
  have hsub:(E1 ++ E2).Sublist arr.toList:=by
   rw [i1]; exact List.Sublist.append (List.Sublist.refl _) (List.sublist_cons_self _ _)
  refine ⟨_,_,φ,?_,VRel.undef,fin (.map (E1 ++ E2).toArray clock) ?_⟩
  ·simp [Builtin.delete_,h0,hx0,hx1,hT.run_und hs,em,hg,keyKind_check hT hk hkv hfit,i2,herase,run_setObjM _ g1]
   rfl
  ·obtain ⟨_,n1,n2,n3⟩:=g2
   have hperm:(l1 ++ l2).Perm (E1 ++ E2):=by
    rw [i1] at i7
    exact (List.perm_cons e0).1 ((List.perm_middle.symm.trans i7).trans List.perm_middle)
   refine ⟨(E1 ++ E2).toArray,clock,by show (w.heap.setIfInBounds p.c _)[p.c]? = _; simp [hin],⟨⟨l1 ++ l2,by simpa using hperm,?_,?_⟩,(hsub.map _).nodup n1,fun e he=>n2 e (hsub.subset (by simpa using he)),(hsub.map _).nodup n3⟩,g3⟩
   ·simp only [List.map_append]; exact i8.append i9
   ·simp only [List.map_append]; exact i10.append i11
end
end Go.Am
end

section
namespace Go.Am
open Go Go.RowKit
section
variable {P:Program} {T:Tys} {B:Nat} {φ:Emb} {H:AHeap} {w:World} {nt:Nat} {t:PT AVal} {a:Act}
def clearA (H:AHeap) (z d:AVal) :ARes :=
 match d with
 | .snil=>some (.undef,H)
 | .sl b o len _ _=>match hstoreN H b o (repl (vcells z) len) with
  | some h'=>some (.undef,h')
  | none=>none
 | _=>none
theorem does_clear (hT:TOk T P) (hH:HRel T B φ H w) {ats:Array TypeId} {ty ty2 e:TypeId} {xs:Array Value} {d:AVal} {ud:Value} (h0:ats[0]? = some ty) (hx0:xs[0]? = some ud)
  (hd:VRel φ d ud) (hty:T.und ty = some (.slice e)) {z:AVal} (hz:zeroOf T e = some z) {v:AVal} {H':AHeap}
  (h:clearA H z d = some (v,H')) :DoesV P T B φ H w (Builtin.clear_ ats ty2 xs) v H':=by
 obtain ⟨zv,z1,z2⟩:=hT.run_zero hz w
 unfold clearA at h
 cases d with
 | snil =>
  cases h
  have e1:ud = .slice none 0 0:=hd
  exact ⟨undef,w,φ,by simp [Builtin.clear_,h0,hx0,hT.run_und hty,e1,undef],VRel.undef,Sim.refl hH⟩
 | sl b o len cap k =>
  simp only at h
  split at h
  ·rename_i h' hst
   cases h
   obtain ⟨y,a',cap',e1,e2,e3,e4,e5,e6,e7⟩:=sl_addr hd
   have hzc:=repl_ok (vcells_const (φ:=φ) z2) (n:=len) rfl
   obtain ⟨w',g3,g4⟩:=hstoreN_ok (P:=P) hH e1 hst hzc
   cases len with
   | zero =>
    have hw:w' = w:=by
     have:((Array.range (0 * zv.cells.size)).map (zv.cells[· % zv.cells.size]!)).toList = []:=by simp
     rw [this] at g3
     simp [storeCells] at g3
     exact g3.symm
    rw [hw] at g4
    exact ⟨undef,w,φ,by simp [Builtin.clear_,h0,hx0,hT.run_und hty,e2,undef],VRel.undef,g4⟩
   | succ n =>
    have ha:a' = ⟨y.c,y.s + o,none⟩:=by
     rcases e5 with h | h
     ·exact h
     ·omega
    refine ⟨undef,w',φ,?_,VRel.undef,g4⟩
    simp [Builtin.clear_,h0,hx0,hT.run_und hty,e2,z1,ha,Builtin.zeroCells,undef] at g3 ⊢
    rw [g3]
    simp
  ·cases h
 | _=>simp at h
theorem append_room (hT:TOk T P) {ats:Array TypeId} {ty ty2 e:TypeId} {xs:Array Value} {base:Option Addr} {sLen sCap:Nat} {ux:Value} (h0:ats[0]? = some ty) (hx0:xs[0]? = some (.slice base sLen sCap)) (hx1:xs[1]? = some ux)
  (h1:ats[1]? = none∨∃ tx d,ats[1]? = some tx∧T.und tx = some d∧∀ k,d ≠ .int k) (hty:T.und ty = some (.slice e)) {sz:Nat} (hsz:T.size e = some sz) {n:Nat} (hn:(Builtin.lenOf ux).run P w = .ok n w) (hle:sLen + n≤sCap)
  {new:Array Value} (hnew:(Builtin.firstCells sz n ux).run P w = .ok new w) {w':World} (hst:(match base with | some a=>storeCells (a.add (sLen * sz)) new.toList | none=>pure ()).run P w = .ok () w') :
  (Builtin.append_ ats ty2 xs).run P w = .ok (.slice base (sLen + n) sCap) w':=by
 rcases h1 with h1 | ⟨tx,d,h1,hd,hne⟩
 ·cases base with
  | none =>
   have e:w = w':=by simpa using hst
   subst e
   simp only [Builtin.append_,h0,hx0,hx1,h1,Sem.run_bind,hT.run_und hty,hT.run_size hsz,hn,hle,hnew,Result.andThen_ok,Sem.run_pure,Bool.false_eq_true,if_false,if_true,Bool.not_false]
  | some a =>
   simp only at hst
   simp only [Builtin.append_,h0,hx0,hx1,h1,Sem.run_bind,hT.run_und hty,hT.run_size hsz,hn,hle,hnew,hst,Result.andThen_ok,Sem.run_pure,Bool.false_eq_true,if_false,if_true,Bool.not_false]
 ·have hb:(match d with | .int _=>true | _=>false) = false:=by
   cases d <;> first | rfl | exact absurd rfl (hne _)
  cases base with
  | none =>
   have e:w = w':=by simpa using hst
   subst e
   simp only [Builtin.append_,h0,hx0,hx1,h1,Sem.run_bind,hT.run_und hty,hT.run_und hd,hT.run_size hsz,hn,hle,hnew,Result.andThen_ok,Sem.run_pure,Bool.false_eq_true,if_false,if_true,Bool.not_false]
  | some a =>
   simp only at hst
   simp only [Builtin.append_,h0,hx0,hx1,h1,Sem.run_bind,hT.run_und hty,hT.run_und hd,hT.run_size hsz,hn,hle,hnew,hst,Result.andThen_ok,Sem.run_pure,Bool.false_eq_true,if_false,if_true,Bool.not_false]
theorem append_new (hT:TOk T P) {ats:Array TypeId} {ty ty2 e:TypeId} {i:TypeInfo} {xs:Array Value} {base:Option Addr} {sLen sCap:Nat} {ux:Value} (h0:ats[0]? = some ty) (hx0:xs[0]? = some (.slice base sLen sCap)) (hx1:xs[1]? = some ux)
  (h1:ats[1]? = none∨∃ tx d,ats[1]? = some tx∧T.und tx = some d∧∀ k,d ≠ .int k) (hty:T.und ty = some (.slice e)) (hi:T.get e = some i) (hb0:i.bytes ≠ 0) {n:Nat} (hn:(Builtin.lenOf ux).run P w = .ok n w) (hgt:¬ (sLen + n≤sCap))
  (hfit:Builtin.nextslicecap (sLen + n) sCap * i.bytes≤2 ^ 48) {old new:Array Value} (hold:(Builtin.firstCells i.size sLen (.slice base sLen sCap)).run P w.drew = .ok old w.drew) (hnew:(Builtin.firstCells i.size n ux).run P w.drew = .ok new w.drew)
  {z:Value} (hz:(zeroValue e).run P w.drew = .ok z w.drew) :
  (Builtin.append_ ats ty2 xs).run P w = .ok (.slice (some ⟨w.heap.size,0,none⟩) (sLen + n) (grownCap w (sLen + n) sCap e))
   (w.drew.alloc (.cells (old ++ new ++ Builtin.zeroCells z.cells (grownCap w (sLen + n) sCap e - (sLen + n))) e)):=by
 have hsz:T.size e = some i.size:=by simp [Tys.size,hi]
 have hfit':¬ (Builtin.nextslicecap (sLen + n) sCap * i.bytes > 2 ^ 48):=by omega
 have hroom:∀ w:World,(askRoom (grownCap w (sLen + n) sCap e * i.bytes)).run P w.drew = .ok () w.drew:=by
  intro w
  unfold askRoom
  split <;> rfl
 rcases h1 with h1 | ⟨tx,d,h1,hd,hne⟩
 ·simp only [Builtin.append_,h0,hx0,hx1,h1,Sem.run_bind,hT.run_und hty,hT.run_size hsz,hn,hgt,Result.andThen_ok,Sem.run_pure,Bool.false_eq_true,if_false,false_or,and_false,hT.run_info hi,hb0,hfit',run_appendCap,hroom,hold,hnew,hz,newRow,run_newObj_alloc,Bool.not_false,if_true]
  rfl
 ·have hb:(match d with | .int _=>true | _=>false) = false:=by
   cases d <;> first | rfl | exact absurd rfl (hne _)
  simp only [Builtin.append_,h0,hx0,hx1,h1,Sem.run_bind,hT.run_und hty,hT.run_und hd,hT.run_size hsz,hn,hgt,Result.andThen_ok,Sem.run_pure,Bool.false_eq_true,if_false,false_or,and_false,hT.run_info hi,hb0,hfit',run_appendCap,hroom,hold,hnew,hz,newRow,run_newObj_alloc,Bool.not_false,if_true]
  rfl
end
end Go.Am
end

section
namespace Go.Am
open Go Go.RowKit
section
variable {P:Program} {T:Tys} {B:Nat} {φ:Emb} {H:AHeap} {w:World} {nt:Nat} {t:PT AVal} {a:Act}
theorem Sim.kill (hH:HRel T B φ H w) {b:Pos} {x:Place} (hx:φ b = some x) :Sim T B φ H w φ (H.kill b) w:=by
 have sub:∀ p o,PT.get p (H.kill b).t = some o→PT.get p H.t = some o∧p ≠ b:=by
  intro p o h
  by_cases e:b = p
  ·subst e; simp [AHeap.kill,PT.get_set_same] at h
  ·simp only [AHeap.kill,PT.get_set_other _ _ _ _ e] at h
   exact ⟨h,fun e'=>e e'.symm⟩
 have sub':∀ p,PT.get p (H.kill b).t ≠ none→PT.get p H.t ≠ none:=by
  intro p h
  cases hg:PT.get p (H.kill b).t with
  | none=>exact absurd hg h
  | some o=>rw [(sub p o hg).1]; simp
 exact ⟨⟨Emb.le_refl _,fun p hp hn=>⟨hn,by
   have:b ≠ p:=fun e=>by rw [e] at hx; rw [hx] at hn; cases hn
   simp [AHeap.kill,PT.get_set_other _ _ _ _ this]⟩,Nat.le_refl _⟩,
  ⟨fun p o y h hy=>hH.obj p o y (sub p o h).1 hy,fun p q y z hpq hp hq=>hH.inj p q y z hpq (sub' p hp) (sub' q hq),hH.low,fun p hp=>hH.dom p (sub' p hp),hH.base,hH.glob⟩,Below.refl _ _⟩
theorem grown_row (hH:HRel T B φ H w) {e:TypeId} {l:List AVal} {old new z:Array Value} {need sCap sz:Nat} (hl:LRel φ l (old ++ new).toList) (hlen:(old ++ new).size = need * sz) (hz:z.size = sz) (hsz:sz ≠ 0) (hneed:need≤281474976710656) :
  ∃ φ',Sim T B φ H w φ' (H.new (.cells l true false)).2 (w.drew.alloc (.cells (old ++ new ++ Builtin.zeroCells z (grownCap w need sCap e - need)) e)) ∧
   VRel φ' (.sl H.nx 0 need need sz) (.slice (some ⟨w.heap.size,0,none⟩) need (grownCap w need sCap e)):=by
 have hge:=grown_ge w need sCap e
 have hH2:HRel T B φ H w.drew:=hH.drawn rfl
 have hk:(old ++ new ++ Builtin.zeroCells z (grownCap w need sCap e - need)).size = grownCap w need sCap e * sz:=by
  rw [Array.size_append,hlen]
  simp only [Builtin.zeroCells,Array.size_map,Array.size_range,hz]
  rw [← Nat.add_mul]
  congr 1
  omega
 have hcells:∀ (i:Nat) (a:AVal),l[i]? = some a→∃ v,(old ++ new ++ Builtin.zeroCells z (grownCap w need sCap e - need))[i]? = some v∧VRel φ a v:=by
  intro i x hi
  obtain ⟨v,g1,g2⟩:=hl.getA i x hi
  refine ⟨v,?_,g2⟩
  have:i < (old ++ new).size:=by
   rcases Nat.lt_or_ge i (old ++ new).size with h | h
   ·exact h
   ·rw [Array.getElem?_eq_none h] at g1; cases g1
  rw [Array.getElem?_append_left this]
  exact g1
 refine ⟨φ.put H.nx ⟨w.heap.size,0,grownCap w need sCap e * sz⟩,?_,⟨w.heap.size,0,grownCap w need sCap e * sz⟩,⟨w.heap.size,0,none⟩,grownCap w need sCap e,Emb.put_same _ _ _,rfl,Nat.le_refl _,hge,.inr (.inl ⟨hsz,rfl,by simp,Go.grownCap_le_maxLen _ _ _ _ (by unfold maxLen; omega)⟩)⟩
 have S:=Sim.new hH2 (.cells l true false) (.cells (old ++ new ++ Builtin.zeroCells z (grownCap w need sCap e - need)) e) _ (ORel.cells_new hH2.base hcells (by rw [hl.lengthA,hlen,hk]; exact Nat.mul_le_mul_right _ hge) true)
 rw [hk] at S
 exact (⟨Ext.refl _ _,hH2,(Below.refl B w).drew⟩ :Sim T B φ H w φ H w.drew).trans S
theorem open_row (hH:HRel T B φ H w) {b:Pos} {x:Place} (hx:φ b = some x) {m:List AVal} {op:Bool} (hb:PT.get b H.t = some (.cells m op false)) {o n:Nat} {old:List AVal} (hold:hloadN H b o n = some old)
  {new:List AVal} {us:List Value} (hnew:LRel φ new us) (hone:∀ v ∈ us,v.oneCell' = true) (hroom:x.s + o + n + us.length≤x.k) :
  ∃ w',(storeCells ⟨x.c,x.s + o + n,none⟩ us).run P w = .ok () w'∧Sim T B φ H w (φ.put H.nx ⟨x.c,x.s + o,x.k⟩) ((H.kill b).new (.cells (old ++ new) true false)).2 w':=by
 obtain ⟨arr,e,lo,hi,h1,h2,h3,h4,h5,h6,h7⟩:=hH.obj b _ x hb hx
 have hB:=h7 rfl
 obtain ⟨old',q1,q2,q3,_⟩:=hloadN_ok (P:=P) hH hx hold
 have hlen:=hnew.length
 have hcells:∀ j,j < us.length→(w.cell? ⟨x.c,x.s + o + n + 0 + j,none⟩).isSome = true:=by
  intro j hj
  rw [cells_at h1]
  have:x.s + o + n + 0 + j < arr.size:=by omega
  simpa using this
 have hfz:∀ j,j < us.length→w.frozen? ⟨x.c,x.s + o + n + 0 + j,none⟩ = false:=by
  intro j hj
  simp only [World.frozen?,h1]
  rcases h5 with h5 | h5 | h5
  ·simp; omega
  ·simp; omega
  ·cases h5
 have hrun:=run_storeCells_cells (P:=P) x.c (x.s + o + n) us 0 w hcells hfz hone
 simp only [Nat.add_zero] at hrun
 refine ⟨_,hrun,?_⟩
 have hbelow:Below B w (w.setCells x.c (x.s + o + n) us):=setCells_below hB us _ w
 obtain ⟨arr',g1,g2,g3⟩:=setCells_block x.c us (x.s + o + n) w arr h1 (by omega)
 have hk:=(Sim.kill hH hx).rel
 have hfresh:φ H.nx = none:=hH.fresh
 have hnb:H.nx ≠ b:=fun e=>by rw [← e,hfresh] at hx; cases hx
 have kept:∀ q,q ≠ H.nx→q ≠ b→PT.get q ((H.kill b).new (.cells (old ++ new) true false)).2.t = PT.get q H.t:=by
  intro q h1 h2
  simp only [AHeap.new,AHeap.kill]
  rw [PT.get_set_other _ _ _ _ (fun e=>h1 e.symm),PT.get_set_other _ _ _ _ (fun e=>h2 e.symm)]
 have gone:PT.get b ((H.kill b).new (.cells (old ++ new) true false)).2.t = none:=by
  simp only [AHeap.new,AHeap.kill]
  rw [PT.get_set_other _ _ _ _ hnb,PT.get_set_same]
 refine ⟨⟨Emb.le_put _ hfresh,fun p hp hn=>?_,by simp [AHeap.new,AHeap.kill,Pos.toNat_succ]⟩,?_,hbelow⟩
 ·have p1:p ≠ H.nx:=fun e=>by rw [e] at hp; omega
  have p2:p ≠ b:=fun e=>by rw [e,hx] at hn; cases hn
  exact ⟨by rw [Emb.put_other _ _ p1]; exact hn,kept p p1 p2⟩
 ·refine hH.place H.nx _ hfresh (by simp [AHeap.new,AHeap.kill,Pos.toNat_succ]) (by simp [AHeap.new,AHeap.kill,Pos.toNat_succ]) (fun q hq=>?_) (fun q z hq hg hz=>?_) (by rw [setCells_size]; exact (hH.low b x hx).2) (by rw [setCells_size]; exact Nat.le_refl _) (fun ob hob=>?_)
  ·by_cases e:q = b
   ·subst e; exact .inr gone
   ·exact .inl (kept q hq e)
  ·have hqb:q ≠ b:=fun e=>by rw [e] at hg; exact hg gone
   rw [kept q hq hqb] at hg
   have hne:z.c ≠ x.c:=hH.inj q b z x hqb hg (by rw [hb]; simp) hz hx
   exact ⟨hne,setCells_heap _ _ _ _ _ hne⟩
  ·have:ob = .cells (old ++ new) true false:=by
    simp only [AHeap.new,AHeap.kill,PT.get_set_same] at hob
    exact (Option.some.inj hob).symm
   subst this
   have hle:=Emb.le_put (φ:=φ) (p:=H.nx) ⟨x.c,x.s + o,x.k⟩ hfresh
   have hol:=q2.length
   refine ⟨arr',e,lo,hi,g1,by rw [g2,h2],?_,fun i y hy=>?_,h5,fun h=>(by cases h),fun _=>hB⟩
   ·simp; omega
   ·by_cases hi':i < old.length
    ·rw [List.getElem?_append_left hi'] at hy
     obtain ⟨v,k1,k2⟩:=q2.get hy
     have:=q3 i v k1
     rw [cells_at h1] at this
     refine ⟨v,?_,VRel.mono hle _ _ k2⟩
     rw [g3]
     show (if x.s + o + n≤x.s + o + i∧_ then _ else arr[x.s + o + i]?) = _
     rw [if_neg (by omega)]
     exact this
    ·rw [List.getElem?_append_right (by omega)] at hy
     obtain ⟨v,k1,k2⟩:=hnew.get hy
     refine ⟨v,?_,VRel.mono hle _ _ k2⟩
     have hiu:i - old.length < us.length:=by
      rcases Nat.lt_or_ge (i - old.length) us.length with h | h
      ·exact h
      ·rw [List.getElem?_eq_none h] at k1; cases k1
     rw [g3]
     show (if x.s + o + n≤x.s + o + i∧x.s + o + i < x.s + o + n + us.length then us[x.s + o + i - (x.s + o + n)]? else _) = _
     rw [if_pos (by omega),show x.s + o + i - (x.s + o + n) = i - old.length by omega]
     exact k1
end
end Go.Am
end

section
namespace Go.Am
open Go Go.RowKit
section
variable {P:Program} {T:Tys} {B:Nat} {φ:Emb} {H:AHeap} {w:World} {nt:Nat} {t:PT AVal} {a:Act}
theorem hloadN_length {b:Pos} {o n:Nat} {l:List AVal} (h:hloadN H b o n = some l) :l.length = n:=by
 unfold hloadN at h
 split at h
 ·obtain ⟨e1,e2⟩:=lsub_eq h
  rw [e1]; simp; omega
 ·cases h
theorem firstN_length {sz n:Nat} {x:AVal} {l:List AVal} {m:Nat} (hm:lenA x = some m) (hle:n≤m) (hn:(∃ s,x = .str s)→sz = 1) (h:firstN H sz n x = some l) :l.length = n * sz:=by
 unfold firstN at h
 split at h
 ·simp [lenA] at hm
  cases h
  have:n = 0:=by omega
  subst this; simp
 ·rename_i s
  simp [lenA] at hm
  cases h
  rw [cellsOfBytes_length,hn ⟨s,rfl⟩]; simp; omega
 ·exact hloadN_length h
 ·cases h
theorem does_append (hT:TOk2 T P) (hH:HRel T B φ H w) {ats:Array TypeId} {ty ty2 e:TypeId} {i:TypeInfo} {xs:Array Value} {s x:AVal} {us ux:Value} (h0:ats[0]? = some ty) (hx0:xs[0]? = some us) (hx1:xs[1]? = some ux)
  (hs:VRel φ s us) (hx:VRel φ x ux) (h1:ats[1]? = none∨∃ tx d,ats[1]? = some tx∧T.und tx = some d∧∀ k,d ≠ .int k) (hty:T.und ty = some (.slice e)) (hi:T.get e = some i) (hb0:i.bytes ≠ 0) (hs0:i.size ≠ 0)
  {z:AVal} (hz:zeroOf T e = some z) {v:AVal} {H':AHeap} (h:appendA H i.size i.bytes s x = some (v,H')) :
  DoesV P T B φ H w (Builtin.append_ ats ty2 xs) v H':=by
 have hsz:T.size e = some i.size:=by simp [Tys.size,hi]
 obtain ⟨zv,z1,z2,z3⟩:=hT.run_zero hz w.drew
 have hzs:=z3 _ hsz
 have hH2:HRel T B φ H w.drew:=hH.drawn rfl
 unfold appendA at h
 split at h
 ·rename_i n new hsrc
  obtain ⟨hn,hf⟩:=srcCells_ok hsrc
  have hlen:=run_lenOf (P:=P) (w:=w) hx hn
  have hstr:(∃ s,x = .str s)→i.size = 1:=by
   rintro ⟨s,rfl⟩
   exact srcCells_str hsrc
  have hnl:=firstN_length hn (Nat.le_refl _) hstr hf
  obtain ⟨nw,f1,f2⟩:=firstN_ok (P:=P) hH hx hn (Nat.le_refl _) hf
  obtain ⟨nw',f1',f2'⟩:=firstN_ok (P:=P) hH2 hx hn (Nat.le_refl _) hf
  have hnws:nw'.size = n * i.size:=by rw [← f2'.lengthA,hnl]
  split at h
  ·
   have es:us = .slice none 0 0:=hs
   rw [es] at hx0
   split at h
   ·cases h
    have:=append_room (P:=P) (w:=w) (ty2:=ty2) hT.toTOk h0 hx0 hx1 h1 hty hsz hlen (by simp) f1 (w':=w) rfl
    exact ⟨_,w,φ,this,rfl,Sim.refl hH⟩
   ·rename_i m
    split at h
    ·rename_i hb
     cases h
     have hb:=Nat.le_of_ble_eq_true hb
     have hfit:Builtin.nextslicecap (0 + (m + 1)) 0 * i.bytes≤2 ^ 48:=by
      rw [nextslicecap_zero (by omega)]
      simpa using hb
     have hold:(Builtin.firstCells i.size 0 (.slice none 0 0)).run P w.drew = .ok #[] w.drew:=by simp [Builtin.firstCells]
     have:=append_new (P:=P) (w:=w) (ty2:=ty2) hT.toTOk h0 hx0 hx1 h1 hty hi hb0 hlen (by omega) hfit hold f1' z1
     obtain ⟨φ',g1,g2⟩:=grown_row (w:=w) (e:=e) (old:=#[]) (new:=nw') (z:=zv.cells) (need:=m + 1) (sCap:=0) (sz:=i.size) (l:=new) hH (by simpa using f2') (by simpa using hnws) hzs hs0 (Nat.le_trans (Nat.le_mul_of_pos_right _ (Nat.pos_of_ne_zero hb0)) hb)
     refine ⟨_,_,φ',this,?_,?_⟩
     ·simpa using g2
     ·simpa [AHeap.new] using g1
    ·cases h
  ·
   rename_i b o len cap k
   obtain ⟨y,a',cap',e1,e2,e3,e4,e5,e6,e7⟩:=sl_addr hs
   rw [e2] at hx0
   split at h
   ·
    rename_i hle
    have hle:=Nat.le_of_ble_eq_true hle
    split at h
    ·rename_i h' hst
     cases h
     obtain ⟨w',g3,g4⟩:=hstoreN_ok (P:=P) hH e1 hst f2
     have g5:(storeCells (a'.add (len * i.size)) nw.toList).run P w = .ok () w':=by
      rcases e5 with e5 | e5
      ·rw [e5,addr_add,Nat.add_assoc]; exact g3
      ·have hn0:n = 0:=by simp at hle; omega
       have hc:nw.toList = []:=by
        have:nw.toList.length = 0:=by rw [f2.length,hnl,hn0]; simp
        exact List.length_eq_zero_iff.1 this
       rw [hc] at g3 ⊢
       exact g3
     have hle':len + n≤cap:=hle
     have:=append_room (P:=P) (w:=w) (ty2:=ty2) hT.toTOk h0 hx0 hx1 h1 hty hsz hlen (by omega) f1 (w':=w') g5
     refine ⟨_,w',φ,this,?_,g4⟩
     obtain ⟨y',a2,c2,q1,q2,q3,q4,q5⟩:=hs
     rw [e2] at q2
     cases q2
     exact ⟨y',_,_,q1,rfl,hle',q4,q5⟩
    ·cases h
   ·
    rename_i hle
    have hle:cap < len + n:=by
     rcases Nat.lt_or_ge cap (len + n) with h | h
     ·exact h
     ·have:Nat.ble (Nat.add len n) cap = true:=Nat.ble_eq_true_of_le h
      rw [this] at hle; cases hle
    split at h
    ·rename_i old hold hbnd
     have hbnd:(len + n) * 2 * i.bytes≤281474976710656:=Nat.le_of_ble_eq_true hbnd
     obtain ⟨ow,o1,o2⟩:=firstN_ok (P:=P) (x:=.sl b o len cap k) (sz:=i.size) (n:=len) (m:=len) hH2 hs rfl (Nat.le_refl _) hold
     have hol:=hloadN_length hold
     rw [e2] at o1
     have hows:ow.size = len * i.size:=by rw [← o2.lengthA,hol]; rfl
     have hrel:LRel φ (old ++ new) (ow ++ nw').toList:=by rw [Array.toList_append]; exact o2.append f2'
     have hsum:(ow ++ nw').size = (len + n) * i.size:=by rw [Array.size_append,hows,hnws,Nat.add_mul]
     have grows:cap' < len + n→(Builtin.append_ ats ty2 xs).run P w = .ok (.slice (some ⟨w.heap.size,0,none⟩) (len + n) (grownCap w (len + n) cap' e))
       (w.drew.alloc (.cells (ow ++ nw' ++ Builtin.zeroCells zv.cells (grownCap w (len + n) cap' e - (len + n))) e)):=by
      intro hc
      have hfit:Builtin.nextslicecap (len + n) cap' * i.bytes≤2 ^ 48:=by
       have:=Nat.mul_le_mul_right i.bytes (nextslicecap_le hc)
       rw [Nat.mul_comm 2] at this
       omega
      exact append_new (P:=P) (w:=w) (ty2:=ty2) hT.toTOk h0 hx0 hx1 h1 hty hi hb0 hlen (by omega) hfit o1 f1' z1
     split at h
     ·
      cases h
      have hc:cap' < len + n:=by rw [e6 rfl]; exact hle
      obtain ⟨φ',g1,g2⟩:=grown_row (w:=w) (e:=e) (z:=zv.cells) (need:=len + n) (sCap:=cap') hH hrel hsum hzs hs0 (by have:=Nat.le_mul_of_pos_right ((len + n) * 2) (Nat.pos_of_ne_zero hb0); omega)
      exact ⟨_,_,φ',grows hc,g2,g1⟩
     ·
      rename_i k'
      split at h
      ·rename_i m op hb hk hscal
       cases h
       have hk:k'.succ = i.size:=Nat.eq_of_beq_eq_true hk
       rcases Nat.lt_or_ge cap' (len + n) with hc | hc
       ·have S:=Sim.kill hH e1
        obtain ⟨φ',g1,g2⟩:=grown_row (w:=w) (e:=e) (z:=zv.cells) (need:=len + n) (sCap:=cap') S.rel hrel hsum hzs hs0 (by have:=Nat.le_mul_of_pos_right ((len + n) * 2) (Nat.pos_of_ne_zero hb0); omega)
        exact ⟨_,_,φ',grows hc,g2,S.trans g1⟩
       ·obtain ⟨ea,eb⟩:=e7 (by simp) (by omega)
        have hm:=Nat.mul_le_mul_right i.size hc
        rw [Nat.add_mul] at hm
        obtain ⟨w',g3,g4⟩:=open_row (P:=P) hH e1 hb hold f2 (allScal_one hscal f2) (by rw [f2.length,hnl]; rw [hk] at eb; show y.s + o + len * i.size + n * i.size≤y.k; omega)
        have g5:(storeCells (a'.add (len * i.size)) nw.toList).run P w = .ok () w':=by
         rw [ea,addr_add]; exact g3
        have:=append_room (P:=P) (w:=w) (ty2:=ty2) hT.toTOk h0 hx0 hx1 h1 hty hsz hlen hc f1 (w':=w') g5
        refine ⟨_,w',_,this,⟨⟨y.c,y.s + o,y.k⟩,a',cap',Emb.put_same _ _ _,rfl,Nat.le_refl _,hc,.inr (.inl ⟨hs0,by rw [ea]; rfl,?_⟩)⟩,g4⟩
        rw [hk] at eb
        exact eb
      ·cases h
    ·cases h
  ·cases h
 ·cases h
end
end Go.Am
end
