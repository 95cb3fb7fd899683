/- Part of the proof: AmWorld, AmWorld2. -/
import Derived.Test.YtpphacngohhmhaaGreatDoorAm25
import Derived.ChangeSlices
set_option linter.unusedSimpArgs false
set_option linter.unusedVariables false
section
namespace Go.Am
open Go Go.RowKit Go.ChangeShapes Go.WideShapes

/-! The whole world as the machine's heap: all of it only to be read. -/
/-- The place of a number, of any size. -/
def posOf : Nat → Pos
  | 0 => .h
  | n + 1 => (posOf n).succ
theorem toNat_posOf : ∀ n, (posOf n).toNat = n + 1
  | 0 => rfl
  | n + 1 => by simp only [posOf, Pos.toNat_succ, toNat_posOf n]
theorem posOf_eq {g : Nat} (hg : g < 2 ^ 31) : posOf g = Pos.ofNat g := Pos.toNat_inj (by rw [toNat_posOf, Pos.toNat_ofNat hg])
def absS (size : Nat) (a : Addr) (len cap : Nat) : AVal :=
  if cap = 0 then (if len = 0 ∧ 0 < size then .sl (posOf 0) 0 0 0 0 else .any)
  else if a.spot = none ∧ a.block < size ∧ len ≤ cap then .sl (posOf a.block) a.off len cap 0 else .any
/-- What lies in one cell. -/
def absV (size : Nat) : Value → AVal
  | .bool b => .bool b
  | .int k n => .int k n
  | .string s => .str (s.data.toList.map UInt8.toNat)
  | .slice none 0 0 => .snil
  | .slice (some a) len cap => absS size a len cap
  | _ => .any
/-- An argument. -/
def absA (size : Nat) : Value → AVal
  | .agg xs => .agg (xs.toList.map (absV size))
  | v => absV size v
def absO (size : Nat) : Option Obj → Option AObj
  | some (.cells arr _ _) => some (.cells (arr.toList.map (absV size)) false true)
  | _ => none
def absT (W : World) : Nat → PT AObj
  | 0 => .l
  | n + 1 => PT.set (posOf n) (absO W.heap.size W.heap[n]?) (absT W n)
def absH (W : World) : AHeap := ⟨absT W W.heap.size, posOf W.heap.size⟩
theorem absH_nx (W : World) : (absH W).nx.toNat = W.heap.size + 1 := toNat_posOf _
theorem absT_get (W : World) : ∀ (n : Nat) (p : Pos), PT.get p (absT W n) = if p.toNat ≤ n then absO W.heap.size W.heap[p.toNat - 1]? else none
  | 0, p => by
    have := Pos.toNat_pos p
    rw [if_neg (by omega)]
    exact get_nil p
  | n + 1, p => by
    have hp := Pos.toNat_pos p
    by_cases h : posOf n = p
    · subst h
      simp only [absT]
      rw [PT.get_set_same, toNat_posOf, if_pos (Nat.le_refl _)]
      simp
    · simp only [absT]
      rw [PT.get_set_other _ _ _ _ h, absT_get W n p]
      have hne : p.toNat ≠ n + 1 := fun e => h (Pos.toNat_inj (by rw [toNat_posOf, e]))
      by_cases h2 : p.toNat ≤ n
      · rw [if_pos h2, if_pos (by omega)]
      · rw [if_neg h2, if_neg (by omega)]
theorem absH_get {W : World} {b : Nat} {arr : Array Value} {e : TypeId} {fz : Nat × Nat} (h : W.heap[b]? = some (.cells arr e fz)) : PT.get (posOf b) (absH W).t = some (.cells (arr.toList.map (absV W.heap.size)) false true) := by
  show PT.get (posOf b) (absT W W.heap.size) = _
  have := (Array.getElem?_eq_some_iff.1 h).1
  rw [absT_get, toNat_posOf, if_pos (by omega)]
  simp only [Nat.add_sub_cancel, h, absO]
def absE (W : World) : Emb := globEmb W W.heap.size
theorem absE_some {W : World} {p : Pos} {x : Place} (h : absE W p = some x) : p.toNat ≤ W.heap.size ∧ x.c = p.toNat - 1 ∧ x.s = 0 ∧ x.k = (match W.heap[p.toNat - 1]? with | some (.cells arr _ _) => arr.size | _ => 0) := by
  unfold absE globEmb at h
  split at h
  · rename_i hb
    cases h
    exact ⟨Nat.le_of_ble_eq_true hb, rfl, rfl, rfl⟩
  · cases h
theorem absE_of {W : World} {b : Nat} (h : b < W.heap.size) : ∃ k, absE W (posOf b) = some ⟨b, 0, k⟩ := by
  unfold absE globEmb
  rw [toNat_posOf, Nat.ble_eq_true_of_le (show b + 1 ≤ W.heap.size by omega)]
  exact ⟨_, rfl⟩
theorem vrel_str {φ : Emb} (s : ByteArray) : VRel φ (.str (s.data.toList.map UInt8.toNat)) (.string s) := by
  have h := vrel_nums (φ := φ) s.data.toList
  have e : (⟨s.data.toList.toArray⟩ : ByteArray) = s := by cases s; simp
  rw [e] at h
  exact h
theorem absS_rel (W : World) (a : Addr) (len cap : Nat) : VRel (absE W) (absS W.heap.size a len cap) (.slice (some a) len cap) := by
  unfold absS
  split
  · rename_i h0
    split
    · rename_i h
      obtain ⟨k, hk⟩ := absE_of h.2
      exact ⟨_, a, 0, hk, by rw [h0, h.1], Nat.le_refl _, Nat.le_refl _, .inl ⟨rfl, rfl, .inr rfl⟩⟩
    · trivial
  · split
    · rename_i h
      obtain ⟨k, hk⟩ := absE_of h.2.1
      refine ⟨_, a, cap, hk, rfl, h.2.2, Nat.le_refl _, .inl ⟨rfl, rfl, .inl ?_⟩⟩
      obtain ⟨b, off, spot⟩ := a
      have : spot = none := h.1
      subst this
      simp
    · trivial
theorem absV_rel (W : World) (v : Value) : VRel (absE W) (absV W.heap.size v) v := by
  unfold absV
  split
  · rfl
  · rfl
  · exact vrel_str _
  · rfl
  · exact absS_rel W _ _ _
  · trivial
theorem absL_rel (W : World) : ∀ (l : List Value), LRel (absE W) (l.map (absV W.heap.size)) l
  | [] => rfl
  | v :: l => ⟨v, l, rfl, absV_rel W v, absL_rel W l⟩
theorem absA_rel (W : World) (v : Value) : VRel (absE W) (absA W.heap.size v) v := by
  unfold absA
  split
  · rename_i xs; exact ⟨xs, rfl, absL_rel W xs.toList⟩
  · exact absV_rel W v
theorem absAs_rel (W : World) : ∀ (l : List Value), LRel (absE W) (l.map (absA W.heap.size)) l
  | [] => rfl
  | v :: l => ⟨v, l, rfl, absA_rel W v, absAs_rel W l⟩
theorem HRel.world {T : Tys} {W : World} (hng : T.ng ≤ W.heap.size) (h31 : T.ng < 2 ^ 31) : HRel T W.heap.size (absE W) (absH W) W := by
  have hto : ∀ g, g < 2 ^ 31 → (Pos.ofNat g).toNat = g + 1 := fun g hg => Pos.toNat_ofNat hg
  refine ⟨fun p o x hp hx => ?_, fun p q x y hpq _ _ hx hy => ?_, fun p x hx => ?_, fun p hp => ?_, Nat.le_refl _, fun g hg => ?_⟩
  · obtain ⟨h1, h2, h3, h4⟩ := absE_some hx
    have hp : PT.get p (absT W W.heap.size) = some o := hp
    rw [absT_get, if_pos h1] at hp
    cases hb : W.heap[p.toNat - 1]? with
    | none => rw [hb] at hp; simp [absO] at hp
    | some ob =>
      rw [hb] at hp h4
      cases ob with
      | cells arr e fz =>
        simp only [absO, Option.some.injEq] at hp
        subst hp
        obtain ⟨lo, hi⟩ := fz
        refine ⟨arr, e, lo, hi, by rw [h2]; exact hb, h4.symm, by rw [h3, h4]; simp, fun i a hi => ?_, .inr (.inr rfl), fun _ h => (by cases h), fun h => (by cases h)⟩
        rw [List.getElem?_map] at hi
        cases hv : arr.toList[i]? with
        | none => rw [hv] at hi; cases hi
        | some v =>
          rw [hv] at hi
          cases hi
          exact ⟨v, by rw [h3]; simpa using hv, absV_rel W v⟩
      | _ => simp [absO] at hp
  · obtain ⟨a1, b1, _⟩ := absE_some hx
    obtain ⟨a2, b2, _⟩ := absE_some hy
    intro e
    have hp1 := Pos.toNat_pos p
    have hq1 := Pos.toNat_pos q
    exact hpq (Pos.toNat_inj (by omega))
  · obtain ⟨a1, b1, _⟩ := absE_some hx
    have hp1 := Pos.toNat_pos p
    refine ⟨?_, by omega⟩
    show _ < (posOf W.heap.size).toNat
    rw [toNat_posOf]; omega
  · show _ < (posOf W.heap.size).toNat
    rw [toNat_posOf]
    have hp : PT.get p (absT W W.heap.size) ≠ none := hp
    rw [absT_get] at hp
    by_cases h : p.toNat ≤ W.heap.size
    · omega
    · rw [if_neg h] at hp; exact absurd rfl hp
  · have : Pos.ofNat g = posOf g := Pos.toNat_inj (by rw [hto g (by omega), toNat_posOf])
    rw [this]
    exact absE_of (by omega)

/-! What a row's reading says of a slice, in the machine's heap. -/
theorem absH_row {W : World} {b off : Nat} {arr : Array Value} {e : TypeId} {fz : Nat × Nat} (hc : W.heap[b]? = some (.cells arr e fz)) {l : List AVal} (h : ∀ i (hi : i < l.length), ∃ v, arr[off + i]? = some v ∧ absV W.heap.size v = l[i]) (hoff : off + l.length ≤ arr.size) : hloadN (absH W) (posOf b) off l.length = some l := by
  unfold hloadN
  rw [absH_get hc]
  simp only
  rw [lsub_of (by simpa using hoff)]
  congr 1
  refine List.ext_getElem? fun i => ?_
  by_cases hi : i < l.length
  · obtain ⟨v, h1, h2⟩ := h i hi
    rw [List.getElem?_take, if_pos hi, List.getElem?_drop, List.getElem?_map, List.getElem?_eq_getElem hi]
    have h1' : arr.toList[off + i]? = some v := by simpa using h1
    rw [h1', Option.map_some, h2]
  · rw [List.getElem?_take, if_neg hi, List.getElem?_eq_none (by omega)]
/-- A slice of a block whose cells can be looked up one by one. -/
theorem absH_slice {W : World} {a : Addr} {len cap : Nat} {l : List AVal} (hl : l.length = len) (hlc : len ≤ cap) (h0 : ∃ arr e fz, W.heap[0]? = some (.cells arr e fz)) (hcell : ∀ i, i < cap → ∃ v, W.cell? (a.add i) = some v) (hval : ∀ i (hi : i < l.length), ∃ v, W.cell? (a.add i) = some v ∧ absV W.heap.size v = l[i]) :
    ∃ b o cap', absS W.heap.size a len cap = .sl b o l.length cap' 0 ∧ hloadN (absH W) b o l.length = some l ∧ b.toNat < (absH W).nx.toNat ∧ l.length ≤ cap' := by
  by_cases hc : cap = 0
  · subst hc
    obtain ⟨arr, e, fz, h0⟩ := h0
    have hl0 : l = [] := List.length_eq_zero_iff.1 (by omega)
    subst hl0
    have hlt := (Array.getElem?_eq_some_iff.1 h0).1
    refine ⟨posOf 0, 0, 0, ?_, ?_, ?_, Nat.le_refl _⟩
    · unfold absS
      rw [if_pos rfl, if_pos ⟨by simpa using hl.symm, by omega⟩]
      rfl
    · exact absH_row h0 (fun i hi => by simp at hi) (by simp)
    · rw [absH_nx, toNat_posOf]; omega
  · obtain ⟨v0, hv0⟩ := hcell 0 (by omega)
    obtain ⟨b, off, spot⟩ := a
    have hspot : spot = none := by simpa [Addr.add] using World.cell?_spot hv0
    subst hspot
    obtain ⟨arr, e, fz, hcb⟩ : ∃ arr e fz, W.heap[b]? = some (.cells arr e fz) := by
      rw [add_plain] at hv0
      unfold World.cell? at hv0
      split at hv0
      · rename_i c e' f' hb; exact ⟨c, e', f', hb⟩
      · cases hv0
    have hlt := (Array.getElem?_eq_some_iff.1 hcb).1
    have ck : ∀ j v, W.cell? (Addr.add ⟨b, off, none⟩ j) = some v → arr[off + j]? = some v := by
      intro j v hj
      rw [add_plain] at hj
      unfold World.cell? at hj
      simpa [hcb] using hj
    refine ⟨posOf b, off, cap, ?_, ?_, by rw [absH_nx, toNat_posOf]; omega, by omega⟩
    · unfold absS
      rw [if_neg hc, if_pos ⟨rfl, hlt, hlc⟩, hl]
    · refine absH_row hcb (fun i hi => ?_) ?_
      · obtain ⟨v, h1, h2⟩ := hval i hi
        exact ⟨v, ck i v h1, h2⟩
      · by_cases hl0 : l.length = 0
        · obtain ⟨v, hv⟩ := hcell 0 (by omega)
          have := (Array.getElem?_eq_some_iff.1 (ck 0 v hv)).1
          omega
        · obtain ⟨v, hv⟩ := hcell (l.length - 1) (by omega)
          have := (Array.getElem?_eq_some_iff.1 (ck _ v hv)).1
          omega
theorem absH_reads {W : World} {a : Addr} {len cap : Nat} {l : List AVal} (hl : l.length = len) (hlc : len ≤ cap) (h0 : ∃ arr e fz, W.heap[0]? = some (.cells arr e fz)) (hcell : ∀ i, i < cap → ∃ v, W.cell? (a.add i) = some v) (hval : ∀ i (hi : i < l.length), ∃ v, W.cell? (a.add i) = some v ∧ absV W.heap.size v = l[i]) :
    Reads (absH W).nx.toNat (absH W) (absS W.heap.size a len cap) l := by
  obtain ⟨b, o, cap', e1, e2, e3, e4⟩ := absH_slice hl hlc h0 hcell hval
  exact .inr ⟨b, o, cap', 0, e1, e2, e3, .inl rfl, e4⟩

section
variable {Hh : Type} {enc : TypeId × Value → Hh} {P : Program} {W : World} {held : Bool}
/-- Whole numbers. -/
theorem reads_ints {t e : TypeId} {k : IntKind} {fuel : Nat} {v : Value} {x : DataW Hh × List MemPlace} (ht : P.underlying t = some (.slice e)) (he : P.underlying e = some (.int k)) (hc : P.cellsOf e = 1) (h0 : ∃ arr e fz, W.heap[0]? = some (.cells arr e fz))
    (h : DataW.trod enc P W 0 (fun _ => true) held fuel t [v] = some x) :
    ∃ zs : List Int, Reads (absH W).nx.toNat (absH W) (absV W.heap.size v) (zs.map (.int k)) ∧ (∀ z ∈ zs, (Lit.int k z).wf = true) ∧ (x.1 = .nil ∧ zs = [] ∨ ∃ sp, x.1 = .slice (lits k zs) sp) := by
  rcases open_ints ht he hc h with ⟨hcs, hx⟩ | ⟨a, len, cap, zs, hcs, _, hlc, hm, hz, hx, hcell, hwz⟩
  · cases hcs
    exact ⟨[], .inl ⟨rfl, rfl⟩, by simp, .inl ⟨by rw [hx], rfl⟩⟩
  · cases hcs
    simp only [if_true] at hz
    refine ⟨zs.take len, absH_reads (by simp; omega) hlc h0 (fun i hi => ⟨_, hcell i (by omega)⟩) (fun i hi => ⟨_, hcell i (by simp at hi; omega), ?_⟩), fun z hz' => hwz z (List.mem_of_mem_take hz'), .inr ⟨_, by rw [hx]⟩⟩
    simp only [List.length_map, List.length_take] at hi
    simp only [absV, List.getElem_map, List.getElem_take]
    rw [List.getD, List.getElem?_eq_getElem (by omega)]
    rfl
end
end Go.Am
end

section
namespace Go.Am
open Go Go.RowKit Go.ChangeShapes Go.WideShapes

section
variable {Hh : Type} {enc : TypeId × Value → Hh} {P : Program} {W : World} {held : Bool}
/-- A slice of one-cell elements, each with its own reading. -/
theorem reads_each {t e : TypeId} {fuel : Nat} {v : Value} {x : DataW Hh × List MemPlace} (ht : P.underlying t = some (.slice e)) (hc : P.cellsOf e = 1) (h0 : ∃ arr e fz, W.heap[0]? = some (.cells arr e fz))
    (h : DataW.trod enc P W 0 (fun _ => true) held fuel t [v] = some x) :
    (v = .slice none 0 0 ∧ x.1 = .nil) ∨ ∃ (vs : List Value) (ys : List (DataW Hh × List MemPlace)) (sp : List (DataW Hh)) (n : Nat), Reads (absH W).nx.toNat (absH W) (absV W.heap.size v) (vs.map (absV W.heap.size)) ∧ vs.length = ys.length ∧ x.1 = .slice (ys.map (·.1)) sp ∧
      ∀ i (hi : i < vs.length) (hy : i < ys.length), DataW.trod enc P W 0 (fun _ => true) held n e [vs[i]] = some ys[i] := by
  rcases DataW.trod_slice ht h with ⟨hcs, hx⟩ | ⟨a, len, cap, elems, rest, n, _, hcs, rfl, _, hl, hm, hlen, hel, hsp, _⟩
  · cases hcs
    exact .inl ⟨rfl, by rw [hx]⟩
  · cases hcs
    obtain ⟨hrl, hr⟩ := hsp rfl
    rw [hc] at hel hr
    simp only [Nat.mul_one] at hel hr
    have cell : ∀ i, i < cap → ∃ v, W.cell? (a.add i) = some v := by
      intro i hi
      by_cases h1 : i < len
      · have := hel i h1
        rw [List.getElem?_eq_getElem (by omega), Option.bind_eq_some_iff] at this
        obtain ⟨cs, hcs, _⟩ := this
        have h2 := (World.cells?_some hcs)
        have hl1 : cs.length = 1 := h2.2.1
        obtain ⟨v, rfl⟩ : ∃ v, cs = [v] := by
          match cs, hl1 with
          | [v], _ => exact ⟨v, rfl⟩
        exact ⟨v, cell_of_cells?_one hcs⟩
      · have := hr (i - len) (by omega)
        rw [List.getElem?_eq_getElem (by omega), Option.bind_eq_some_iff] at this
        obtain ⟨cs, hcs, _⟩ := this
        have h2 := (World.cells?_some hcs)
        have hl1 : cs.length = 1 := h2.2.1
        obtain ⟨v, rfl⟩ : ∃ v, cs = [v] := by
          match cs, hl1 with
          | [v], _ => exact ⟨v, rfl⟩
        rw [show len + (i - len) = i by omega] at hcs
        exact ⟨v, cell_of_cells?_one hcs⟩
    have each : ∀ i, i < len → ∃ v, W.cell? (a.add i) = some v ∧ ∃ y, elems[i]? = some y ∧ DataW.trod enc P W 0 (fun _ => true) held n e [v] = some y := by
      intro i h1
      have hh := hel i h1
      rw [List.getElem?_eq_getElem (by omega), Option.bind_eq_some_iff] at hh
      obtain ⟨cs, hcs, hy⟩ := hh
      have h2 := (World.cells?_some hcs)
      have hl1 : cs.length = 1 := h2.2.1
      obtain ⟨v, rfl⟩ : ∃ v, cs = [v] := by
        match cs, hl1 with
        | [v], _ => exact ⟨v, rfl⟩
      exact ⟨v, cell_of_cells?_one hcs, elems[i]'(by omega), List.getElem?_eq_getElem (by omega), hy⟩
    have hvs : ∃ vs : List Value, vs.length = len ∧ ∀ i, (hi : i < vs.length) → W.cell? (a.add i) = some vs[i] := by
      refine ⟨(List.range len).map fun i => (W.cell? (a.add i)).getD default, by simp, fun i hi => ?_⟩
      simp only [List.length_map, List.length_range] at hi
      obtain ⟨v, hv, _⟩ := each i hi
      simp [hv]
    obtain ⟨vs, hvl, hvc⟩ := hvs
    refine .inr ⟨vs, elems, rest.map (·.1), n, absH_reads (by simp [hvl]) hl h0 cell (fun i hi => ⟨_, hvc i (by simpa using hi), by simp⟩), by rw [hvl, hlen], rfl, fun i hi hy => ?_⟩
    obtain ⟨v, hv, y, hye, hyt⟩ := each i (by omega)
    rw [hvc i hi] at hv
    obtain rfl := Option.some.inj hv
    rw [List.getElem?_eq_getElem hy] at hye
    obtain rfl := Option.some.inj hye
    exact hyt
end

section
variable {Hh : Type} {enc : TypeId × Value → Hh} {P : Program} {W : World} {held : Bool}
theorem cells_ints : ∀ {zs : List Int}, (∀ z ∈ zs, (Lit.int .u8 z).wf = true) → zs.map (AVal.int .u8) = cellsOfBytes (zs.map Int.toNat) ∧ ∀ u ∈ zs.map Int.toNat, u < 256
  | [], _ => ⟨rfl, by simp⟩
  | z :: zs, h => by
    obtain ⟨h1, h2⟩ := cells_ints (zs := zs) fun z hz => h z (by simp [hz])
    have hz := h z (by simp)
    have hmin : IntKind.u8.min = 0 := by decide
    have hmax : IntKind.u8.max = 255 := by decide
    simp only [Lit.wf, hmin, hmax, Bool.and_eq_true, decide_eq_true_eq] at hz
    refine ⟨?_, ?_⟩
    · simp only [List.map_cons, cellsOfBytes, h1]
      congr 2
      exact (Int.toNat_of_nonneg hz.1).symm
    · simp only [List.map_cons, List.mem_cons]
      rintro u (rfl | hu)
      · omega
      · exact h2 u hu
/-- Bytes. -/
theorem reads_bytes {t e : TypeId} {fuel : Nat} {v : Value} {x : DataW Hh × List MemPlace} (ht : P.underlying t = some (.slice e)) (he : P.underlying e = some (.int .u8)) (hc : P.cellsOf e = 1) (h0 : ∃ arr e fz, W.heap[0]? = some (.cells arr e fz))
    (h : DataW.trod enc P W 0 (fun _ => true) held fuel t [v] = some x) :
    ∃ us : List Nat, Reads (absH W).nx.toNat (absH W) (absV W.heap.size v) (cellsOfBytes us) ∧ (∀ u ∈ us, u < 256) ∧ (x.1 = .nil ∧ us = [] ∨ ∃ zs sp, x.1 = .slice (lits .u8 zs) sp ∧ us.length = zs.length) := by
  obtain ⟨zs, h1, h2, h3⟩ := reads_ints ht he hc h0 h
  obtain ⟨e1, e2⟩ := cells_ints h2
  refine ⟨zs.map Int.toNat, by rw [← e1]; exact h1, e2, ?_⟩
  rcases h3 with ⟨h3, rfl⟩ | ⟨sp, h3⟩
  · exact .inl ⟨h3, rfl⟩
  · exact .inr ⟨zs, sp, h3, by simp⟩
/-- A list of texts. -/
theorem lists_bytes {t e b : TypeId} {fuel : Nat} {v : Value} {x : DataW Hh × List MemPlace} (ht : P.underlying t = some (.slice e)) (he : P.underlying e = some (.slice b)) (hb : P.underlying b = some (.int .u8)) (hce : P.cellsOf e = 1) (hcb : P.cellsOf b = 1) (h0 : ∃ arr e fz, W.heap[0]? = some (.cells arr e fz))
    (h : DataW.trod enc P W 0 (fun _ => true) held fuel t [v] = some x) :
    ∃ uss : List (List Nat), (∃ vs, Reads (absH W).nx.toNat (absH W) (absV W.heap.size v) vs ∧ vs.length = uss.length ∧ ∀ (i : Nat) (vi : AVal) (us : List Nat), vs[i]? = some vi → uss[i]? = some us → Reads (absH W).nx.toNat (absH W) vi (cellsOfBytes us)) ∧ (∀ us ∈ uss, ∀ u ∈ us, u < 256) ∧
      (x.1 = .nil ∧ uss = [] ∨ ∃ ys sp, x.1 = .slice ys sp ∧ ys.length = uss.length ∧ ∀ (i : Nat) y us, ys[i]? = some y → uss[i]? = some us → (y = .nil ∧ us = [] ∨ ∃ zs sp, y = .slice (lits .u8 zs) sp ∧ us.length = zs.length)) := by
  rcases reads_each ht hce h0 h with ⟨rfl, hx⟩ | ⟨vs, ys, sp, n, h1, h2, h3, h4⟩
  · exact ⟨[], ⟨[], .inl ⟨rfl, rfl⟩, rfl, fun i vi us e => by simp at e⟩, by simp, .inl ⟨hx, rfl⟩⟩
  · have each : ∀ (i : Nat) v y, vs[i]? = some v → ys[i]? = some y → ∃ us : List Nat, Reads (absH W).nx.toNat (absH W) (absV W.heap.size v) (cellsOfBytes us) ∧ (∀ u ∈ us, u < 256) ∧ (y.1 = .nil ∧ us = [] ∨ ∃ zs sp, y.1 = .slice (lits .u8 zs) sp ∧ us.length = zs.length) := by
      intro i v y hv hy
      obtain ⟨l1, e1⟩ := List.getElem?_eq_some_iff.1 hv
      obtain ⟨l2, e2⟩ := List.getElem?_eq_some_iff.1 hy
      have := h4 i l1 l2
      rw [e1, e2] at this
      exact reads_bytes he hb hcb h0 this
    have build : ∀ (vs : List Value) (ys : List (DataW Hh × List MemPlace)), vs.length = ys.length → (∀ (i : Nat) v y, vs[i]? = some v → ys[i]? = some y → ∃ us : List Nat, Reads (absH W).nx.toNat (absH W) (absV W.heap.size v) (cellsOfBytes us) ∧ (∀ u ∈ us, u < 256) ∧ (y.1 = .nil ∧ us = [] ∨ ∃ zs sp, y.1 = .slice (lits .u8 zs) sp ∧ us.length = zs.length)) →
        ∃ uss : List (List Nat), uss.length = vs.length ∧ ∀ (i : Nat) v y us, vs[i]? = some v → ys[i]? = some y → uss[i]? = some us → Reads (absH W).nx.toNat (absH W) (absV W.heap.size v) (cellsOfBytes us) ∧ (∀ u ∈ us, u < 256) ∧ (y.1 = .nil ∧ us = [] ∨ ∃ zs sp, y.1 = .slice (lits .u8 zs) sp ∧ us.length = zs.length) := by
      intro vs
      induction vs with
      | nil => intro ys _ _; exact ⟨[], rfl, fun i v y us e => by simp at e⟩
      | cons v vs ih =>
        intro ys hl hh
        cases ys with
        | nil => simp at hl
        | cons y ys =>
          obtain ⟨us, hu⟩ := hh 0 v y rfl rfl
          obtain ⟨uss, i1, i2⟩ := ih ys (by simpa using hl) (fun i v y e1 e2 => hh (i + 1) v y (by simpa using e1) (by simpa using e2))
          refine ⟨us :: uss, by simp [i1], fun i v' y' us' e1 e2 e3 => ?_⟩
          cases i with
          | zero =>
            simp at e1 e2 e3
            subst e1 e2 e3
            exact hu
          | succ i => exact i2 i v' y' us' (by simpa using e1) (by simpa using e2) (by simpa using e3)
    obtain ⟨uss, b1, b2⟩ := build vs ys h2 each
    have get : ∀ (i : Nat) (us : List Nat), uss[i]? = some us → ∃ v y, vs[i]? = some v ∧ ys[i]? = some y := by
      intro i us hi
      have := (List.getElem?_eq_some_iff.1 hi).1
      exact ⟨_, _, List.getElem?_eq_getElem (by omega), List.getElem?_eq_getElem (by omega)⟩
    refine ⟨uss, ⟨_, h1, by simp [b1], fun i vi us e1 e2 => ?_⟩, fun us hus => ?_, .inr ⟨_, sp, h3, by simp [b1, h2], fun i y us e1 e2 => ?_⟩⟩
    · obtain ⟨v, y, g1, g2⟩ := get i us e2
      rw [List.getElem?_map, g1] at e1
      cases e1
      exact (b2 i v y us g1 g2 e2).1
    · obtain ⟨i, hi⟩ := List.getElem?_of_mem hus
      obtain ⟨v, y, g1, g2⟩ := get i us hi
      exact (b2 i v y us g1 g2 hi).2.1
    · obtain ⟨v, y', g1, g2⟩ := get i us e2
      rw [List.getElem?_map, g2] at e1
      cases e1
      exact (b2 i v y' us g1 g2 e2).2.2
end

/-! A function known by what it does in the world. -/
/-- A sum that answers v where that is so in every world that the heap describes. -/
noncomputable def sOracle (P : Program) (T : Tys) (B : Nat) (f : FuncId) (v : List AVal → AVal) : List AVal → AHeap → ARes := fun args H =>
  open Classical in if (∀ φ w args', HRel T B φ H w → LRel φ args args'.toList → CallOk P T B φ H w f args' (v args) H) then some (v args, H) else none
theorem sumOk_oracle (P : Program) (T : Tys) (B : Nat) (f : FuncId) (v : List AVal → AVal) : SumOk P T B f (sOracle P T B f v) := by
  intro φ H w args args' u H' hH hl hs
  unfold sOracle at hs
  split at hs
  · rename_i hc
    cases hs
    exact hc φ w args' hH hl
  · cases hs
theorem oracle_ok {P : Program} {T : Tys} {B : Nat} {f : FuncId} {v : List AVal → AVal} {args : List AVal} {H : AHeap} (h : ∀ φ w args', HRel T B φ H w → LRel φ args args'.toList → CallOk P T B φ H w f args' (v args) H) : sOracle P T B f v args H = some (v args, H) := by
  unfold sOracle
  rw [if_pos h]

/-- Values that point nowhere. -/
def flatV : AVal → Bool
  | .bool _ | .int _ _ | .str _ => true
  | _ => false
theorem flat_rel {φ φ' : Emb} {a : AVal} {v : Value} (h : flatV a = true) (r : VRel φ a v) : VRel φ' a v := by
  cases a <;> first | exact r | cases h
/-- A part of the heap that is only read and points nowhere. -/
theorem HRel.part {T : Tys} {B : Nat} {φ : Emb} {H H0 : AHeap} {w : World} (h : HRel T B φ H w) (hsub : ∀ p o, PT.get p H0.t = some o → PT.get p H.t = some o ∧ ∃ l, o = .cells l false true ∧ l.all flatV = true) (hnx : H0.nx.toNat ≤ H.nx.toNat) (hdom : ∀ p, PT.get p H0.t ≠ none → p.toNat < H0.nx.toNat) (hg : ∀ g, g < T.ng → (Pos.ofNat g).toNat < H0.nx.toNat) :
    HRel T w.heap.size (fun p => if p.toNat < H0.nx.toNat then φ p else none) H0 w := by
  have hφ : ∀ {p x}, (fun p => if p.toNat < H0.nx.toNat then φ p else none) p = some x → p.toNat < H0.nx.toNat ∧ φ p = some x := by
    intro p x hx
    simp only at hx
    split at hx
    · rename_i hlt; exact ⟨hlt, hx⟩
    · cases hx
  refine ⟨fun p o x hp hx => ?_, fun p q x y hpq hp hq hx hy => ?_, fun p x hx => ?_, hdom, Nat.le_refl _, fun g hg' => ?_⟩
  · obtain ⟨hlt, hx⟩ := hφ hx
    obtain ⟨hp', l, rfl, hfl⟩ := hsub p o hp
    obtain ⟨arr, e, lo, hi, h1, h2, h3, h4, h5, h6, h7⟩ := h.obj p _ x hp' hx
    refine ⟨arr, e, lo, hi, h1, h2, h3, fun i a hi => ?_, .inr (.inr rfl), fun _ h => (by cases h), fun h => (by cases h)⟩
    obtain ⟨v, e1, e2⟩ := h4 i a hi
    have ha : flatV a = true := List.all_eq_true.1 hfl a (List.mem_of_getElem? hi)
    exact ⟨v, e1, flat_rel ha e2⟩
  · obtain ⟨_, hx⟩ := hφ hx
    obtain ⟨_, hy⟩ := hφ hy
    refine h.inj p q x y hpq (fun e => ?_) (fun e => ?_) hx hy
    · cases ho : PT.get p H0.t with
      | none => exact hp ho
      | some o => rw [(hsub p o ho).1] at e; cases e
    · cases ho : PT.get q H0.t with
      | none => exact hq ho
      | some o => rw [(hsub q o ho).1] at e; cases e
  · obtain ⟨h1, hx⟩ := hφ hx
    exact ⟨h1, (h.low p x hx).2⟩
  · obtain ⟨k, hk⟩ := h.glob g hg'
    exact ⟨k, by simp only [hg g hg', if_true]; exact hk⟩

theorem putAll_inv : ∀ (l : List (Nat × AObj)) (t : PT AObj) (p : Pos) (o : AObj), PT.get p (putAll l t) = some o → (∃ q ∈ l, p = Pos.ofNat q.1 ∧ o = q.2) ∨ PT.get p t = some o
  | [], t, p, o, h => .inr h
  | x :: l, t, p, o, h => by
    simp only [putAll] at h
    rcases putAll_inv l _ p o h with ⟨q, hq, e⟩ | h
    · exact .inl ⟨q, List.mem_cons_of_mem _ hq, e⟩
    · by_cases e : Pos.ofNat x.1 = p
      · subst e
        rw [PT.get_set_same] at h
        exact .inl ⟨x, by simp, rfl, (Option.some.inj h).symm⟩
      · rw [PT.get_set_other _ _ _ _ e] at h
        exact .inr h
theorem flat_abs {n : Nat} {a : AVal} {v : Value} (h : flatV a = true) (r : ∀ φ, VRel φ a v) : absV n v = a := by
  replace r := r fun _ => none
  cases a <;> first | cases h | skip
  · have r : v = _ := r; subst r; rfl
  · have r : v = _ := r; subst r; rfl
  · rename_i s₀
    obtain ⟨rfl, hs⟩ := r
    simp only [absV]
    congr 1
    simp only [List.toList_toArray, List.map_map]
    conv => rhs; rw [← List.map_id s₀]
    refine List.map_congr_left fun x hx => ?_
    have := hs x hx
    simp only [Function.comp, UInt8.toNat_ofNat', id]
    omega
theorem flat_absL {n : Nat} : ∀ {l : List AVal} {vs : List Value}, l.all flatV = true → (∀ φ, LRel φ l vs) → vs.map (absV n) = l
  | [], vs, _, r => by
    have : vs = [] := r fun _ => none
    rw [this]
    rfl
  | a :: l, vs, h, r => by
    simp only [List.all_cons, Bool.and_eq_true] at h
    obtain ⟨v, ws, rfl, _, _⟩ := r fun _ => none
    have r1 : ∀ φ, VRel φ a v ∧ LRel φ l ws := fun φ => by
      obtain ⟨v', ws', e, h1, h2⟩ := r φ
      cases e
      exact ⟨h1, h2⟩
    simp only [List.map_cons, flat_abs h.1 (fun φ => (r1 φ).1), flat_absL h.2 (fun φ => (r1 φ).2)]
/-- The tables that a closed play reads, as a heap of their own. -/
def tabH (ng : Nat) (objs : List (Nat × List AVal)) : AHeap := ⟨putAll (objs.map fun p => (p.1, .cells p.2 false true)) .l, Pos.ofNat ng⟩
/-- A closed play that has been run on the tables alone, called where the whole world is the heap. -/
theorem closed_oracle {P : Program} {T : Tys} {B : Nat} {W : World} {f : FuncId} {objs : List (Nat × List AVal)} {v : AVal} {h1 : AHeap} (hng : T.ng ≤ W.heap.size) (h31 : T.ng < 2147483648) (hobj : ∀ q ∈ objs, q.1 < T.ng ∧ Lies W q.1 q.2 ∧ q.2.all flatV = true) (hv : flatV v = true)
    (hrun : ∀ φ w, HRel T w.heap.size φ (tabH T.ng objs) w → Returns P T w.heap.size φ (tabH T.ng objs) w f #[] v h1) : ∀ φ w (args' : Array Value), HRel T B φ (absH W) w → LRel φ [] args'.toList → CallOk P T B φ (absH W) w f args' v (absH W) := by
  intro φ w args' hH hl
  have hto : ∀ g, g < 2 ^ 31 → (Pos.ofNat g).toNat = g + 1 := fun g hg => Pos.toNat_ofNat hg
  have ha : args' = #[] := by
    have : args'.toList = [] := hl
    simpa using this
  subst ha
  have hinv : ∀ p o, PT.get p (tabH T.ng objs).t = some o → ∃ q ∈ objs, p = Pos.ofNat q.1 ∧ o = .cells q.2 false true := by
    intro p o h
    rcases putAll_inv _ _ p o h with ⟨q, hq, e1, e2⟩ | h
    · obtain ⟨q', hq', rfl⟩ := List.mem_map.1 hq
      exact ⟨q', hq', e1, e2⟩
    · rw [get_nil] at h; cases h
  have hH0 := hH.part (H0 := tabH T.ng objs) (fun p o h => by
    obtain ⟨q, hq, rfl, rfl⟩ := hinv p o h
    obtain ⟨h1, ⟨arr, e, fz, hb, hr⟩, h3⟩ := hobj q hq
    refine ⟨?_, _, rfl, h3⟩
    rw [← posOf_eq (by omega), absH_get hb, flat_absL h3 hr]) (by rw [absH_nx]; show (Pos.ofNat T.ng).toNat ≤ _; rw [hto _ h31]; omega) (fun p hp => by
      cases hh : PT.get p (tabH T.ng objs).t with
      | none => exact absurd hh hp
      | some o =>
        obtain ⟨q, hq, rfl, _⟩ := hinv p o hh
        have := (hobj q hq).1
        show _ < (Pos.ofNat T.ng).toNat
        rw [hto _ h31, hto _ (by omega)]
        omega) (fun g hg => by show _ < (Pos.ofNat T.ng).toNat; rw [hto _ h31, hto _ (by omega)]; omega)
  obtain ⟨g1, g2⟩ := hrun _ w hH0
  refine .inl ⟨g1, CallsIn.mono g2 ?_⟩
  rintro e w' ⟨u, φ', rfl, hvu, hS⟩
  exact ⟨u, φ, rfl, flat_rel hv hvu, Sim.grown hH hS.below⟩
/-- The whole law, run by the machine on the world as its heap. -/
theorem law_calls {P : Program} {T : Tys} {E : Env} {W : World} (hT : TOk2 T P) (hE : EnvOk P T W.heap.size E) (hm : P.follows .mixedOrders = true) (hng : T.ng ≤ W.heap.size) (h31 : T.ng < 2147483648) {f : FuncId} (hf : PT.get (Pos.ofNat f) E.sums = none) {args : Array Value} {b : Bool} {H' : AHeap} (h : CallS E f (args.toList.map (absA W.heap.size)) (absH W) (.bool b) H') :
    Calls P f args W fun e W' => e = .returned (.bool b) ∧ Below W.heap.size W W' := by
  obtain ⟨n, h⟩ := h
  have h := h n (Nat.le_refl _)
  unfold callA at h
  rw [hf] at h
  have h : callF E (ev E n) f (args.toList.map (absA W.heap.size)) (absH W) = some (.bool b, H') := by
    cases hb : Nat.blt f 2147483648 <;> rw [hb] at h <;> exact h
  exact (runA_ok hT hE hm (HRel.world hng h31) (absAs_rel W args.toList) h).calls fun u φ' w' hv hS => by
    have hv : u = .bool b := hv
    subst hv
    exact ⟨rfl, hS.below⟩
end Go.Am
end
