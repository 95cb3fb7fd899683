/- Part of the proof: AmMergesEnv, AmR3. -/
import Derived.Test.YtpphacngohhmhaaGreatDoorFn4
import Derived.Test.YtpphacngohhmhaaGreatDoorNet3
import Derived.Test.YtpphacngohhmhaaGreatDoorAm26
import Derived.Test.YtpphacngohhmhaaGreatDoorFn2
import Derived.Deep.Strs
set_option linter.unusedSimpArgs false
set_option linter.unusedVariables false
section
namespace Go.Am
open Go Go.Proofs
noncomputable def lawFns : List (Nat × Func) := [(3, Tryz.f3), (5, Tryz.f5), (6, Tryz.f6), (7, Tryz.f7), (8, Tryz.f8), (9, Tryz.f9), (10, Tryz.f10), (11, Tryz.f11), (22, Tryz.f22), (24, Tryz.f24), (25, Tryz.f25), (66, Tryz.f66)]
noncomputable def lawT : PT AFun := putFns theTys lawFns .l
noncomputable def lawSums (B : Nat) : List (Nat × (List AVal → AHeap → ARes)) := [(23, sMerge), (12, sNet), (4, sOracle Tryz.prog theTys B 4 (fun _ => .bool true))]
noncomputable def lawEnv (B : Nat) : Env := ⟨lawT, putAll (lawSums B) .l, putAll ([] : List (Nat × (List AVal → AHeap → Option AHeap))) .l⟩
theorem lawFns_ok : ∀ p ∈ lawFns, FnOk p := fm fnOk3 (fm fnOk5 (fm fnOk6 (fm fnOk7 (fm fnOk8 (fm fnOk9 (fm fnOk10 (fm fnOk11 (fm fnOk22 (fm fnOk24 (fm fnOk25 (fm fnOk66 (fun _ h => by cases h))))))))))))
theorem lawEnv_ok (B : Nat) : EnvOk Tryz.prog theTys B (lawEnv B) := EnvOk.of_lists lawFns_ok (fun p hp => by
  simp only [lawSums, List.mem_cons, List.not_mem_nil, or_false] at hp
  rcases hp with rfl | rfl | rfl
  · exact ⟨by show (23 : Nat) < _; decide, sum23 B⟩
  · exact ⟨by show (12 : Nat) < _; decide, sum12 B⟩
  · exact ⟨by show (4 : Nat) < _; decide, sumOk_oracle _ _ _ _ _⟩) (fun _ h => by cases h)
theorem code3 : PT.get (Pos.ofNat 3) lawT = some g3 := by kernel_rfl
theorem code5 : PT.get (Pos.ofNat 5) lawT = some g5 := by kernel_rfl
theorem code6 : PT.get (Pos.ofNat 6) lawT = some g6 := by kernel_rfl
theorem code7 : PT.get (Pos.ofNat 7) lawT = some g7 := by kernel_rfl
theorem code8 : PT.get (Pos.ofNat 8) lawT = some g8 := by kernel_rfl
theorem code9 : PT.get (Pos.ofNat 9) lawT = some g9 := by kernel_rfl
theorem code10 : PT.get (Pos.ofNat 10) lawT = some g10 := by kernel_rfl
theorem code11 : PT.get (Pos.ofNat 11) lawT = some g11 := by kernel_rfl
theorem code22 : PT.get (Pos.ofNat 22) lawT = some g22 := by kernel_rfl
theorem code24 : PT.get (Pos.ofNat 24) lawT = some g24 := by kernel_rfl
theorem code25 : PT.get (Pos.ofNat 25) lawT = some g25 := by kernel_rfl
theorem code66 : PT.get (Pos.ofNat 66) lawT = some g66 := by kernel_rfl
theorem lawEnv_sums (B : Nat) (p : Pos) (h : (Pos.beq p (Pos.ofNat 4) || (Pos.beq p (Pos.ofNat 12) || Pos.beq p (Pos.ofNat 23))) = false) : PT.get p (lawEnv B).sums = none := by
  obtain ⟨h1, h2⟩ := Bool.or_eq_false_iff.1 h
  obtain ⟨h2, h3⟩ := Bool.or_eq_false_iff.1 h2
  show PT.get p (putAll (lawSums B) .l) = none
  simp only [lawSums, putAll]
  rw [PT.get_set_other _ _ _ _ (fun e => by subst e; rw [Pos.beq_eq.2 rfl] at h1; cases h1), PT.get_set_other _ _ _ _ (fun e => by subst e; rw [Pos.beq_eq.2 rfl] at h2; cases h2), PT.get_set_other _ _ _ _ (fun e => by subst e; rw [Pos.beq_eq.2 rfl] at h3; cases h3)]
  exact get_nil p
theorem lawEnv12 (B : Nat) : PT.get (Pos.ofNat 12) (lawEnv B).sums = some sNet := by
  show PT.get _ (putAll (lawSums B) .l) = _
  simp only [lawSums, putAll]
  rw [PT.get_set_other _ _ _ _ (pos_ne (by decide) (by decide) (by decide))]
  exact PT.get_set_same _ _ _
theorem lawEnv23 (B : Nat) : PT.get (Pos.ofNat 23) (lawEnv B).sums = some sMerge := by
  show PT.get _ (putAll (lawSums B) .l) = _
  simp only [lawSums, putAll]
  rw [PT.get_set_other _ _ _ _ (pos_ne (by decide) (by decide) (by decide)), PT.get_set_other _ _ _ _ (pos_ne (by decide) (by decide) (by decide))]
  exact PT.get_set_same _ _ _
theorem codeOk (B : Nat) : CodeOkC (lawEnv B) := { s := lawEnv_sums B, s7 := lawEnv12 B, s28 := lawEnv23 B, f3 := code3, f5 := code5, f6 := code6, f7 := code7, f8 := code8, f9 := code9, f10 := code10, f11 := code11, f22 := code22, f24 := code24, f25 := code25, f66 := code66 }
theorem first_call {B : Nat} {H : AHeap} (h : ∀ φ w (args' : Array Value), HRel theTys B φ H w → LRel φ [] args'.toList → CallOk Tryz.prog theTys B φ H w 4 args' (.bool true) H) : CallS (lawEnv B) 4 [] H (.bool true) H := by
  refine ⟨0, fun n _ => ?_⟩
  unfold callA
  have e : PT.get (Pos.ofNat 4) (lawEnv B).sums = some (sOracle Tryz.prog theTys B 4 (fun _ => .bool true)) := by
    show PT.get _ (putAll (lawSums B) .l) = _
    simp only [lawSums, putAll]
    exact PT.get_set_same _ _ _
  rw [e]
  exact oracle_ok h
end Go.Am
end

section
namespace Go.Am
open Go Go.RowKit Go.ChangeShapes Go.WideShapes

/-! What a row's reading says of a slice of changes. -/
section
variable {Hh : Type} {enc : TypeId × Value → Hh} {P : Program} {W : World} {held : Bool}
theorem absH_slice3 {a : Addr} {len cap : Nat} {l : List AVal} (hl : l.length = len * 3) (hlc : len ≤ cap) (h0 : ∃ arr e fz, W.heap[0]? = some (.cells arr e fz)) (hcell : ∀ i, i < cap * 3 → ∃ v, W.cell? (a.add i) = some v) (hval : ∀ i (hi : i < l.length), ∃ v, W.cell? (a.add i) = some v ∧ absV W.heap.size v = l[i]) :
    ∃ b o cap', absS W.heap.size a len cap = .sl b o len cap' 0 ∧ hloadN (absH W) b o (len * 3) = some l ∧ b.toNat < (absH W).nx.toNat ∧ len ≤ cap' := by
  rw [← hl]
  by_cases hc : cap = 0
  · subst hc
    obtain ⟨arr, e, fz, h0⟩ := h0
    have hl0 : len = 0 := by omega
    subst hl0
    have hl0 : l = [] := List.length_eq_zero_iff.1 (by omega)
    subst hl0
    have hlt := (Array.getElem?_eq_some_iff.1 h0).1
    refine ⟨posOf 0, 0, 0, ?_, ?_, ?_, Nat.le_refl _⟩
    · unfold absS
      rw [if_pos rfl, if_pos ⟨rfl, by omega⟩]
    · exact absH_row h0 (fun i hi => by simp at hi) (by simp)
    · rw [absH_nx, toNat_posOf]; omega
  · obtain ⟨v0, hv0⟩ := hcell 0 (by omega)
    obtain ⟨b, off, spot⟩ := a
    have hspot : spot = none := by simpa [Addr.add] using World.cell?_spot hv0
    subst hspot
    obtain ⟨arr, e, fz, hcb⟩ : ∃ arr e fz, W.heap[b]? = some (.cells arr e fz) := by
      rw [add_plain] at hv0
      unfold World.cell? at hv0
      split at hv0
      · rename_i c e' f' hb; exact ⟨c, e', f', hb⟩
      · cases hv0
    have hlt := (Array.getElem?_eq_some_iff.1 hcb).1
    have ck : ∀ j v, W.cell? (Addr.add ⟨b, off, none⟩ j) = some v → arr[off + j]? = some v := by
      intro j v hj
      rw [add_plain] at hj
      unfold World.cell? at hj
      simpa [hcb] using hj
    refine ⟨posOf b, off, cap, ?_, ?_, by rw [absH_nx, toNat_posOf]; omega, by omega⟩
    · unfold absS
      rw [if_neg hc, if_pos ⟨rfl, hlt, hlc⟩]
    · refine absH_row hcb (fun i hi => ?_) ?_
      · obtain ⟨v, h1, h2⟩ := hval i hi
        exact ⟨v, ck i v h1, h2⟩
      · by_cases hl0 : l.length = 0
        · obtain ⟨v, hv⟩ := hcell 0 (by omega)
          have := (Array.getElem?_eq_some_iff.1 (ck 0 v hv)).1
          omega
        · obtain ⟨v, hv⟩ := hcell (l.length - 1) (by omega)
          have := (Array.getElem?_eq_some_iff.1 (ck _ v hv)).1
          omega
theorem addr_add3 (a : Addr) (i j : Nat) : (a.add i).add j = a.add (i + j) := by
  by_cases hi : i = 0 <;> by_cases hj : j = 0 <;> simp [Addr.add, hi, hj, Nat.add_assoc]
theorem change_cells {e : TypeId} {f0 f1 f2 : Field} {n : Nat} {cs : List Value} {y : DataW Hh × List MemPlace} (he : P.underlying e = some (.struct #[f0, f1, f2])) (hc : P.cellsOf e = 3) (o0 : f0.offset = 0) (o1 : f1.offset = 1) (o2 : f2.offset = 2) (t0 : P.underlying f0.type = some (.int .i64)) (t1 : P.underlying f1.type = some (.int .i64)) (t2 : P.underlying f2.type = some .bool)
    (c0 : P.cellsOf f0.type = 1) (c1 : P.cellsOf f1.type = 1) (c2 : P.cellsOf f2.type = 1) (h : DataW.trod enc P W 0 (fun _ => true) held n e cs = some y) : ∃ u v g, cs = [.int .i64 u, .int .i64 v, .bool g] := by
  obtain ⟨y0, y1, y2, m, rfl, hl, g0, g1, g2⟩ := Go.Deep.trod_struct3 he h
  rw [hc] at hl
  match cs, hl with
  | [v0, v1, v2], _ =>
    simp [o0, o1, o2, c0, c1, c2] at g0 g1 g2
    obtain ⟨u, e0, _⟩ := DataW.trod_int t0 g0
    obtain ⟨v, e1, _⟩ := DataW.trod_int t1 g1
    obtain ⟨g, e2, _⟩ := DataW.trod_bool t2 g2
    simp at e0 e1 e2
    exact ⟨u, v, g, by rw [e0, e1, e2]⟩
theorem reads_trips {t e : TypeId} {f0 f1 f2 : Field} {fuel : Nat} {v : Value} {x : DataW Hh × List MemPlace} (ht : P.underlying t = some (.slice e)) (he : P.underlying e = some (.struct #[f0, f1, f2])) (hc : P.cellsOf e = 3) (o0 : f0.offset = 0) (o1 : f1.offset = 1) (o2 : f2.offset = 2) (t0 : P.underlying f0.type = some (.int .i64)) (t1 : P.underlying f1.type = some (.int .i64)) (t2 : P.underlying f2.type = some .bool)
    (c0 : P.cellsOf f0.type = 1) (c1 : P.cellsOf f1.type = 1) (c2 : P.cellsOf f2.type = 1) (h0 : ∃ arr e fz, W.heap[0]? = some (.cells arr e fz))
    (h : DataW.trod enc P W 0 (fun _ => true) held fuel t [v] = some x) : ∃ ts : List Trp, TReads (absH W).nx.toNat (absH W) (absV W.heap.size v) ts := by
  rcases DataW.trod_slice ht h with ⟨hcs, hx⟩ | ⟨a, len, cap, elems, rest, n, _, hcs, rfl, _, hl, hm, hlen, hel, hsp, _⟩
  · cases hcs
    exact ⟨[], .inl ⟨rfl, rfl⟩⟩
  · cases hcs
    obtain ⟨hrl, hr⟩ := hsp rfl
    rw [hc] at hel hr
    have one : ∀ {i : Nat} {y : Option (DataW Hh × List MemPlace)}, y ≠ none → (W.cells? 0 (a.add (i * 3)) 3).bind (DataW.trod enc P W 0 (fun _ => true) held n e) = y → ∃ u v g, W.cell? (a.add (i * 3)) = some (.int .i64 u) ∧ W.cell? (a.add (i * 3 + 1)) = some (.int .i64 v) ∧ W.cell? (a.add (i * 3 + 2)) = some (.bool g) := by
      intro i y hy hh
      obtain ⟨y, rfl⟩ := Option.ne_none_iff_exists'.1 hy
      rw [Option.bind_eq_some_iff] at hh
      obtain ⟨cs, hcs, hh⟩ := hh
      obtain ⟨u, v, g, rfl⟩ := change_cells he hc o0 o1 o2 t0 t1 t2 c0 c1 c2 hh
      obtain ⟨_, _, hcell⟩ := World.cells?_some hcs
      refine ⟨u, v, g, ?_, ?_, ?_⟩
      · simpa [addr_add3] using hcell 0 (by omega)
      · simpa [addr_add3] using hcell 1 (by omega)
      · simpa [addr_add3] using hcell 2 (by omega)
    have el : ∀ i, i < cap → ∃ u v g, W.cell? (a.add (i * 3)) = some (.int .i64 u) ∧ W.cell? (a.add (i * 3 + 1)) = some (.int .i64 v) ∧ W.cell? (a.add (i * 3 + 2)) = some (.bool g) := by
      intro i hi
      by_cases h1 : i < len
      · exact one (by rw [List.getElem?_eq_getElem (by omega)]; simp) (hel i h1)
      · have := hr (i - len) (by omega)
        rw [show len + (i - len) = i by omega] at this
        exact one (by rw [List.getElem?_eq_getElem (by omega)]; simp) this
    have all : ∀ k, k ≤ cap → ∃ ts : List Trp, ts.length = k ∧ ∀ i (hi : i < (tripVals ts).length), ∃ v, W.cell? (a.add i) = some v ∧ absV W.heap.size v = (tripVals ts)[i] := by
      intro k
      induction k with
      | zero => exact fun _ => ⟨[], rfl, fun i hi => by simp [tripVals] at hi⟩
      | succ k ih =>
        intro hk
        obtain ⟨ts, hl, hh⟩ := ih (by omega)
        obtain ⟨u, v, g, g0, g1, g2⟩ := el k (by omega)
        refine ⟨ts ++ [(u, v, g)], by simp [hl], fun i hi => ?_⟩
        have e1 : tripVals (ts ++ [(u, v, g)]) = tripVals ts ++ [.int .i64 u, .int .i64 v, .bool g] := by rw [tripVals_append]; rfl
        have hlen3 := tripVals_length ts
        simp only [e1] at hi ⊢
        by_cases h1 : i < (tripVals ts).length
        · rw [List.getElem_append_left h1]
          exact hh i h1
        · simp only [List.length_append, List.length_cons, List.length_nil] at hi
          rw [List.getElem_append_right (by omega)]
          have h2 : i - (tripVals ts).length = 0 ∨ i - (tripVals ts).length = 1 ∨ i - (tripVals ts).length = 2 := by omega
          rcases h2 with h2 | h2 | h2
          · refine ⟨_, by rw [show i = k * 3 by omega]; exact g0, ?_⟩
            simp only [h2]; rfl
          · refine ⟨_, by rw [show i = k * 3 + 1 by omega]; exact g1, ?_⟩
            simp only [h2]; rfl
          · refine ⟨_, by rw [show i = k * 3 + 2 by omega]; exact g2, ?_⟩
            simp only [h2]; rfl
    obtain ⟨ts, hl1, hh⟩ := all len hl
    obtain ⟨b, o, cap', e1, e2, e3, e4⟩ := absH_slice3 (len := len) (cap := cap) (l := tripVals ts) (by rw [tripVals_length, hl1]) hl h0 (fun i hi => by
      obtain ⟨u, v, g, g0, g1, g2⟩ := el (i / 3) (by omega)
      have h2 : i = i / 3 * 3 ∨ i = i / 3 * 3 + 1 ∨ i = i / 3 * 3 + 2 := by omega
      rcases h2 with h2 | h2 | h2
      · exact ⟨_, by rw [h2]; exact g0⟩
      · exact ⟨_, by rw [h2]; exact g1⟩
      · exact ⟨_, by rw [h2]; exact g2⟩) hh
    refine ⟨ts, .inr ⟨b, o, cap', 0, ?_, by rw [hl1]; exact e2, e3, .inl rfl, by rw [hl1]; exact e4⟩⟩
    rw [hl1]
    exact e1
end
end Go.Am
end
