/- Part of the proof: AmClos, AmNetEnv. -/
import Derived.Test.YtaogphcjlkeakaaGreatDoorEnv
import Derived.Test.YtaogphcjlkeakaaGreatDoorAm28
import Derived.Test.YtaogphcjlkeakaaGreatDoorLay
import Derived.Tactics
import Derived.Tactics2
import Derived.WalkKit
import Derived.WalkSpells
import Derived.StillTactics
import Derived.Laws.Pointers
import Derived.Deep.RegionHeld3
import Derived.Test.YtaogphcjlkeakaaGreatDoorNet2
set_option linter.unusedSimpArgs false
set_option linter.unusedVariables false
section
namespace Go.Proofs
open Go.Shelf Go.RowKit Go.Lib Go.Sort Go.Am
set_option maxHeartbeats 4000000 in
theorem or2 (a b:Int) (blk:Nat) (W:World) (h0:W.cell? ⟨blk,0,none⟩ = some (.int .i64 a)) (h1:W.cell? ⟨blk,1,none⟩ = some (.int .i64 b)) :
  Calls Tryz.prog 30 #[.slice (some ⟨blk,0,none⟩) 2 2] W fun e w'=>e = .returned (.int .i64 (orZ a b))∧w' = W:=by
 go_enter Tryz.func30,Tryz.ntmps30
 go_wp2
 refine wp_loop_rounds 3 ?_
 rw [rounds_succ]
 go_wp2
 ·rename_i h
  have h:a ≠ 0:=by simpa using h
  go_ret
  simp [orZ,h]
 ·rename_i h
  have h:a = 0:=by simpa using h
  subst h
  rw [rounds_succ]
  go_wp2
  ·go_ret
   simp [orZ]
  ·rename_i h
   have h:b = 0:=by simpa using h
   subst h
   rw [rounds_succ]
   go_wp2
   go_ret
   simp [orZ]
theorem three_alloc (W:World) (a b c:Obj) :(((W.alloc a).alloc b).alloc c).drew = grow (W.drewN 1) #[a,b,c]:=by
 have:W.heap ++ #[a,b,c] = ((W.heap.push a).push b).push c:=by apply Array.ext'; simp
 simp only [grow,World.drew,World.drewN,World.alloc,this]
set_option maxHeartbeats 8000000 in
theorem clos24 (x y:Int × Int) (g h:Bool) (W:World) :Calls Tryz.prog 29 #[.agg #[.int .i64 x.1,.int .i64 x.2,.bool g],.agg #[.int .i64 y.1,.int .i64 y.2,.bool h]] W fun e w'=>e = .returned (.int .i64 (cmpK x y))∧∃ q os',w' = grow (W.drewN q) os':=by
 have hcon:=fun a b W'=>AnyG.cmp_Compare_int Tryz.cmpInt a b W'
 change ∀ a b W',Calls Tryz.prog 31 _ _ _ at hcon
 have hor:=or2
 go_enter Tryz.func29,Tryz.ntmps29
 go_wp2
 go_region_held3 (fun w'=>w'.cell? ⟨W.heap.size,0,none⟩ = some (.int .i64 x.1)∧w'.cell? ⟨W.heap.size,1,none⟩ = some (.int .i64 x.2)∧w'.cell? ⟨W.heap.size + 1,0,none⟩ = some (.int .i64 y.1)∧w'.cell? ⟨W.heap.size + 1,1,none⟩ = some (.int .i64 y.2)) (go_keep)
  (first
   | (go_at_call 31; refine (hcon _ _ _).mono ?_; rintro e w' ⟨rfl,rfl⟩)
   | (go_at_call 30; refine (hor (Lib.compareInt x.1 y.1) (Lib.compareInt x.2 y.2) _ _ ?_ ?_).mono ?_; (simp [go_sem]); (simp [go_sem]); rintro e w' ⟨rfl,rfl⟩))
 go_wp2
 go_ret
 exact ⟨rfl,1,_,three_alloc W _ _ _⟩
theorem cmpLays24 (f:Int→Int→Bool) (blk off size:Nat) (w:World) :CmpLays Tryz.prog 29 #[] (encT f) 3 cmpK blk off size w :=
 fun _ _ _ _ x y=>clos24 x y (f x.1 x.2) (f y.1 y.2) _
theorem swoK:SWO (ltOf cmpK) where
 irrefl x:=by rw [ltOf_cmpK]; simpa using LtK.irrefl x
 trans x y z h1 h2:=by rw [ltOf_cmpK] at *; simp only [decide_eq_true_eq] at *; exact h1.trans h2
 ntrans x y z h1 h2:=by
  rw [ltOf_cmpK] at *
  simp only [decide_eq_false_iff_not] at *
  unfold LtK at *
  omega
theorem sortf_at (f:Int→Int→Bool) (blk cap:Nat) (d:Array (Int × Int)) (w:World) (hH:HoldsK (encT f) 3 w blk 0 d) (hblk:blk < w.heap.size) (hsz:d.size < 4611686018427387904) :
  Calls Tryz.prog 28 #[.slice (some ⟨blk,0,none⟩) d.size cap,.func (.func 29) #[] #[]] w fun e w'=>e = .returned (.tuple #[])∧∃ n os,w' = sortWorldK (encT f) 3 w blk 0 n (d.toList.mergeSort fun x y=>!(ltOf cmpK) y x).toArray os :=
 AnyQ.slices_SortFunc_total Tryz.sortf 3 (fun w=>Tryz.isAgg32 w) (fun w=>Tryz.sizeOf32 w) (encT f) (fun _=>rfl) (fun x v hv=>by simp [encT] at hv; rcases hv with rfl | rfl | rfl <;> rfl) cmpK swoK 29 #[] blk 0 cap d w
  (enters_of Tryz.func29 (by kernel_rfl) rfl) (cmpLays24 f blk 0 d.size w) hH hblk hsz (fun x y h1 h2=>by
   rw [ltOf_cmpK] at h1 h2
   simp only [decide_eq_false_iff_not] at h1 h2
   rcases LtK.total x y with h | h | h
   ·exact absurd h h1
   ·exact h
   ·exact absurd h h2)
end Go.Proofs
end

section
namespace Go.Am
open Go Go.Proofs Go.RowKit
set_option maxRecDepth 100000
theorem sum28 (B:Nat) :SumOk Tryz.prog theTys B 28 (sSortT 29):=sumOk_sortT Tryz.func28 (by kernel_rfl) rfl sortf_at (fun p cap fv w=>AnyF.slices_SortFunc_none Tryz.sortf p cap fv w)
theorem sum78 (B:Nat) :SumOk Tryz.prog theTys B 78 sSortZ:=sumOk_sortZ Tryz.func78 (by kernel_rfl) rfl (fun blk cap zs w h1 h2 h3=>AnyM.slices_Sort_int Tryz.sortInt blk 0 cap zs w h1 h2 h3) (fun p cap w=>AnyM.slices_Sort_int_none Tryz.sortInt p cap w)
theorem sum80 (B:Nat) :SumOk Tryz.prog theTys B 80 sCompactZ:=sumOk_compactZ Tryz.func80 (by kernel_rfl) rfl (fun blk cap zs w h1 h2 h3=>AnyG.slices_Compact_int Tryz.compact blk 0 cap zs w h1 h2 h3) (fun p cap w=>AnyG.slices_Compact_int_empty Tryz.compact p cap w)
noncomputable def netFns:List (Nat × Func):=[27,79].map fnAt
noncomputable def netSums:List (Nat × (List AVal→AHeap→ARes)):=[(28,sSortT 29),(78,sSortZ),(80,sCompactZ)]
noncomputable def netT0:PT AFun:=putFns theTys netFns .l
noncomputable def netEnv:Env:=⟨netT0,putAll netSums .l,putAll ([] :List (Nat × (List AVal→AHeap→Option AHeap))) .l⟩
theorem netFns_ok:∀ p ∈ netFns,FnOk p:=fnsAt_ok (inIdxs (by kernel_rfl))
theorem netSums_ok (B:Nat) :∀ p ∈ netSums,p.1 < 2 ^ 31∧SumOk Tryz.prog theTys B p.1 p.2:=by
 simp only [netSums,List.forall_mem_cons]
 exact ⟨⟨by decide,sum28 B⟩,⟨by decide,sum78 B⟩,⟨by decide,sum80 B⟩,fun _ h=>by cases h⟩
theorem netEnv_ok (B:Nat) :EnvOk Tryz.prog theTys B netEnv:=EnvOk.of_lists netFns_ok (netSums_ok B) (fun _ h=>by cases h)
theorem net22:PT.get (Pos.ofNat 27) netT0 = some g27:=by kernel_rfl
theorem net67:PT.get (Pos.ofNat 79) netT0 = some g79:=by kernel_rfl
theorem netEnv_sums (p:Pos) (h:(Pos.beq p (Pos.ofNat 28) || Pos.beq p (Pos.ofNat 78) || Pos.beq p (Pos.ofNat 80)) = false) :PT.get p netEnv.sums = none:=by
 show PT.get p (putAll netSums .l) = none
 simp only [Bool.or_eq_false_iff] at h
 obtain ⟨⟨h1,h2⟩,h3⟩:=h
 have ne:∀ q,Pos.beq p q = false→q ≠ p:=fun q hq e=>by subst e; rw [Pos.beq_eq.2 rfl] at hq; cases hq
 simp only [netSums,putAll]
 rw [PT.get_set_other _ _ _ _ (ne _ h3),PT.get_set_other _ _ _ _ (ne _ h2),PT.get_set_other _ _ _ _ (ne _ h1)]
 exact get_nil p
theorem netCode:CodeOk netEnv:={ s:=netEnv_sums,f27:=net22,f79:=net67 }
theorem pos_ne {a b:Nat} (ha:a < 2147483648) (hb:b < 2147483648) (h:a ≠ b) :Pos.ofNat a ≠ Pos.ofNat b:=fun e=>h (Pos.ofNat_inj ha hb e)
theorem get23:PT.get (Pos.ofNat 28) netEnv.sums = some (sSortT 29):=by
 show PT.get _ (putAll netSums .l) = _
 simp only [netSums,putAll]
 rw [PT.get_set_other _ _ _ _ (pos_ne (by decide) (by decide) (by decide)),PT.get_set_other _ _ _ _ (pos_ne (by decide) (by decide) (by decide))]
 exact PT.get_set_same _ _ _
theorem get66:PT.get (Pos.ofNat 78) netEnv.sums = some sSortZ:=by
 show PT.get _ (putAll netSums .l) = _
 simp only [netSums,putAll]
 rw [PT.get_set_other _ _ _ _ (pos_ne (by decide) (by decide) (by decide))]
 exact PT.get_set_same _ _ _
theorem get68:PT.get (Pos.ofNat 80) netEnv.sums = some sCompactZ:=by
 show PT.get _ (putAll netSums .l) = _
 simp only [netSums,putAll]
 exact PT.get_set_same _ _ _
theorem sum7 (B:Nat) :SumOk Tryz.prog theTys B 7 sNet :=
 sumOk_net theTys_ok netEnv_ok mixed_ok netCode get23 Tryz.func7 (by kernel_rfl) (hb:=rfl) rfl (by kernel_rfl) (by kernel_rfl) (by kernel_rfl) (by kernel_rfl) (by kernel_rfl) (by kernel_rfl) (by kernel_rfl) (by kernel_rfl) rfl (by kernel_rfl) rfl rfl rfl Tryz.underlying78 rfl rfl rfl rfl rfl rfl rfl rfl rfl B
theorem sum32 (B:Nat) :SumOk Tryz.prog theTys B 32 sMerge :=
 sumOk_merge theTys_ok netEnv_ok mixed_ok netCode get66 get68 Tryz.func32 (by kernel_rfl) (hb:=rfl) rfl (by kernel_rfl) (by kernel_rfl) (by kernel_rfl) (by kernel_rfl) (by kernel_rfl) (by kernel_rfl) (by kernel_rfl) (by kernel_rfl) rfl (by kernel_rfl) rfl rfl rfl Tryz.underlying85 rfl rfl rfl rfl rfl rfl rfl rfl rfl B
end Go.Am
end
