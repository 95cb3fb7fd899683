/- Part of the proof: AmB1, AmB2, AmB3. -/
import Derived.Test.YtkajhokkaadiiaaGreatDoorFn6
import Derived.Test.YtkajhokkaadiiaaGreatDoorCode
import Derived.Test.YtkajhokkaadiiaaGreatDoorAm25
set_option linter.unusedSimpArgs false
set_option linter.unusedVariables false
section
namespace Go.Am
open Go

structure CodeOk2 (E : Env) : Prop extends CodeOk E where
  f20 : PT.get (Pos.ofNat 20) E.fns = some g20
  f39 : PT.get (Pos.ofNat 39) E.fns = some g39
  f40 : PT.get (Pos.ofNat 40) E.fns = some g40
  f41 : PT.get (Pos.ofNat 41) E.fns = some g41
  f42 : PT.get (Pos.ofNat 42) E.fns = some g42

theorem strEq_eqv : ∀ {us vs : List Nat}, strEq us vs = true ↔ us = vs
  | [], [] => by simp [strEq]
  | [], _ :: _ => by simp [strEq]
  | _ :: _, [] => by simp [strEq]
  | u :: us, v :: vs => by
    simp only [strEq]
    by_cases h : u = v
    · subst h; simp [beq_t, strEq_eqv]
    · rw [beq_f h]; simp [h]
/-- Are the lists of texts one? -/
def allEq : List (List Nat) → List (List Nat) → Bool
  | [], [] => true
  | a :: l, b :: m => strEq a b && allEq l m
  | _, _ => false
theorem allEq_iff : ∀ {l m : List (List Nat)}, allEq l m = true ↔ l = m
  | [], [] => by simp [allEq]
  | [], _ :: _ => by simp [allEq]
  | _ :: _, [] => by simp [allEq]
  | a :: l, b :: m => by simp [allEq, strEq_eqv, allEq_iff]

/-- Four bytes as a number. -/
def num4 (a b c d : Nat) : Nat := a * 16777216 + b * 65536 + c * 256 + d
theorem shl_ok {a k : Nat} (ha : a < 256) (hk : k ≤ 24) : binOpA .shl (.int .i64 (.ofNat a)) (.int .u64 (.ofNat k)) = some (.int .i64 (.ofNat (a * 2 ^ k))) := by
  have h1 : Nat.min k 64 = k := Nat.min_eq_left (by omega)
  have h2 : a * 2 ^ k ≤ 9223372036854775807 := by
    have : 2 ^ k ≤ 2 ^ 24 := Nat.pow_le_pow_right (by decide) hk
    have : a * 2 ^ k ≤ 256 * 2 ^ 24 := Nat.mul_le_mul (by omega) this
    exact Nat.le_trans this (by decide)
  have hb : IntKind.i64.bits = 64 := rfl
  have h3 : Nat.ble (Nat.mul a (Nat.pow 2 k)) 9223372036854775807 = true := ble_t h2
  show (let n := Nat.min k IntKind.i64.bits; some (AVal.int .i64 (wrapI .i64 (mulI (.ofNat a) (.ofNat (Nat.pow 2 n)))))) = _
  simp only [hb, h1, mulI, wrapI, h3]
  rfl
theorem or_ok {a b : Nat} (h : a ||| b ≤ 4294967295) : binOpA .or (.int .i64 (.ofNat a)) (.int .i64 (.ofNat b)) = some (.int .i64 (.ofNat (a ||| b))) := by
  show some (AVal.int .i64 (wrapI .i64 (.ofNat (Nat.mod (Nat.lor a b) 18446744073709551616)))) = _
  have h1 : Nat.mod (Nat.lor a b) 18446744073709551616 = a ||| b := Nat.mod_eq_of_lt (by show a ||| b < _; omega)
  rw [h1]
  have h2 : Nat.ble (a ||| b) 9223372036854775807 = true := ble_t (by omega)
  simp only [wrapI, h2]
theorem or_sum {a b k : Nat} (hb : b < 2 ^ k) : a * 2 ^ k ||| b = a * 2 ^ k + b := by
  rw [← Nat.shiftLeft_eq, Nat.shiftLeft_add_eq_or_of_lt hb]

section
variable {E : Env} (C : CodeOk2 E)
include C
theorem eq_bytes {n : Nat} {H : AHeap} {x y : AVal} {us vs : List Nat} (hx : Reads n H x (cellsOfBytes us)) (hy : Reads n H y (cellsOfBytes vs)) (hu : ∀ u ∈ us, u < 256) (hv : ∀ u ∈ vs, u < 256) : CallS E 40 [x, y] H (.bool (strEq us vs)) H := by
  suffices h : ∃ v H', CallS E 40 [x, y] H v H' ∧ v = .bool (strEq us vs) ∧ H' = H by obtain ⟨v, H', h, rfl, rfl⟩ := h; exact h
  refine CallS.by (R := fun v H' => v = .bool (strEq us vs) ∧ H' = H) (t0 := tput (tput .l (some (Pos.ofNat 0)) x) (some (Pos.ofNat 1)) y) (C.s _ rfl) rfl C.f40 rfl ?_
  refine W.seq (W.region ?_)
  refine WO.go rfl rfl (fun rec => rfl) (WO.nil ?_)
  refine W.seq (W.region ?_)
  refine WO.go rfl rfl (fun rec => rfl) ?_
  refine WO.go (v := .str us) (H' := H) rfl rfl (fun rec => by simp only [execA, write]; rw [conv_reads hx hu (by simp [AOpnd.ev, tget_puts])]) ?_
  refine WO.go rfl rfl (fun rec => rfl) ?_
  refine WO.go (v := .str vs) (H' := H) rfl rfl (fun rec => by simp only [execA, write]; rw [conv_reads hy hv (by simp [AOpnd.ev, tget_puts])]) ?_
  refine WO.go (v := .bool (strEq us vs)) (H' := H) rfl rfl (fun rec => by simp [execA, write, quiet, AOpnd.ev, tget_puts, binOpA, strBin]) ?_
  refine WO.go rfl rfl (fun rec => rfl) (WO.nil (W.ret ?_))
  exact ⟨.inr rfl, rfl, .bool (strEq us vs), by simp [resultA, g40, AOpnd.ev, tget_puts], rfl, rfl⟩

/-- SameBytes, of unlike texts too. -/
theorem eq_bytes' {n : Nat} {H : AHeap} {x y : AVal} {us vs : List Nat} (hx : Reads n H x (cellsOfBytes us)) (hy : Reads n H y (cellsOfBytes vs)) (hu : ∀ u ∈ us, u < 256) (hv : ∀ u ∈ vs, u < 256) : CallS E 13 [x, y] H (.bool (strEq us vs)) H := by
  suffices h : ∃ v H', CallS E 13 [x, y] H v H' ∧ v = .bool (strEq us vs) ∧ H' = H by obtain ⟨v, H', h, rfl, rfl⟩ := h; exact h
  refine CallS.by (R := fun v H' => v = .bool (strEq us vs) ∧ H' = H) (t0 := tput (tput .l (some (Pos.ofNat 0)) x) (some (Pos.ofNat 1)) y) (C.s _ rfl) rfl C.f13 rfl ?_
  refine W.seq (W.region ?_)
  refine WO.go rfl rfl (fun rec => rfl) (WO.nil ?_)
  refine W.seq (W.region ?_)
  refine WO.go rfl rfl (fun rec => rfl) ?_
  refine WO.go (v := .str us) (H' := H) rfl rfl (fun rec => by simp only [execA, write]; rw [conv_reads hx hu (by simp [AOpnd.ev, tget_puts])]) ?_
  refine WO.go rfl rfl (fun rec => rfl) ?_
  refine WO.go (v := .str vs) (H' := H) rfl rfl (fun rec => by simp only [execA, write]; rw [conv_reads hy hv (by simp [AOpnd.ev, tget_puts])]) ?_
  refine WO.go (v := .bool (strEq us vs)) (H' := H) rfl rfl (fun rec => by simp [execA, write, quiet, AOpnd.ev, tget_puts, binOpA, strBin]) ?_
  refine WO.go rfl rfl (fun rec => rfl) (WO.nil (W.ret ?_))
  exact ⟨.inr rfl, rfl, .bool (strEq us vs), by simp [resultA, g13, AOpnd.ev, tget_puts], rfl, rfl⟩
end
end Go.Am
end

section
namespace Go.Am
open Go

theorem Reads.fLen {n : Nat} {H : AHeap} {v : AVal} {l : List AVal} (h : Reads n H v l) : fLen H 1 v = some (.int .i64 (.ofNat l.length)) := by
  rcases h with ⟨rfl, rfl⟩ | ⟨b, o, cap, sz, rfl, h, hb⟩ <;> rfl
theorem Reads.fIdx {n : Nat} {H : AHeap} {v : AVal} {l : List AVal} (h : Reads n H v l) {i : Nat} (hi : i < l.length) : ∃ b o, fIdxS 1 v (.int .i64 (.ofNat i)) = some (.ptr b o) ∧ hload H b o = some l[i] := by
  obtain ⟨b, o, cap, sz, rfl, h'⟩ := h.idx hi
  refine ⟨b, o + i, ?_, h'⟩
  simp only [fIdxS, natOf, blt_t hi, off1]
theorem sliceA_lo {t : PT AVal} {Y : AOpnd} {b : Pos} {o len cap sz i : Nat} (hY : Y.ev t = .int .i64 (.ofNat i)) (hs : sz = 0 ∨ sz = 1) (hi : i < len) (hc : len ≤ cap) :
    sliceA t (.sl 1) (.sl b o len cap sz) (some Y) none none = some (.sl b (o + i) (len - i) (cap - i) sz) := by
  have e1 : Nat.ble i len = true := ble_t (by omega)
  have e2 : Nat.beq cap i = false := beq_f (by omega)
  rcases hs with rfl | rfl
  · simp only [sliceA, boundOf, hY, natOf, e1, e2, off1, nsub]
  · simp only [sliceA, boundOf, hY, natOf, e1, off1, nsub]
theorem shl_ok' {a k : Nat} (ha : a < 256) (hk : k ≤ 24) : binOpA .shl (.int .i64 (.ofNat a)) (.int .u64 (.ofNat k)) = some (.int .i64 (.ofNat (a * 2 ^ k))) := shl_ok ha hk
theorem or_ok' {a b s : Nat} (h : a ||| b = s) (hs : s ≤ 4294967295) : binOpA .or (.int .i64 (.ofNat a)) (.int .i64 (.ofNat b)) = some (.int .i64 (.ofNat s)) := by
  subst h; exact or_ok hs
theorem bcells_at : ∀ (us : List Nat) (i : Nat) (h : i < us.length), (cellsOfBytes us)[i]'(by rw [cells_length]; exact h) = .int .u8 (.ofNat us[i])
  | u :: us, 0, _ => rfl
  | u :: us, i + 1, h => by simpa [cellsOfBytes] using bcells_at us i (by simpa using h)
theorem bcells_drop : ∀ (us : List Nat) (k : Nat), (cellsOfBytes us).drop k = cellsOfBytes (us.drop k)
  | us, 0 => rfl
  | [], k + 1 => rfl
  | u :: us, k + 1 => by simpa [cellsOfBytes] using bcells_drop us k

section
variable {E : Env} (C : CodeOk2 E)
include C

theorem number_ok {n : Nat} {H : AHeap} {x : AVal} {us : List Nat} (hx : Reads n H x (cellsOfBytes us)) (hu : ∀ u ∈ us, u < 256) {i : Nat} (hi : 4 * i + 4 ≤ us.length) (hl : us.length ≤ 1073741824) :
    CallS E 39 [x, .int .i64 (.ofNat i)] H (.int .i64 (.ofNat (num4 us[4 * i] us[4 * i + 1] us[4 * i + 2] us[4 * i + 3]))) H := by
  suffices h : ∃ v H', CallS E 39 [x, .int .i64 (.ofNat i)] H v H' ∧ v = .int .i64 (.ofNat (num4 us[4 * i] us[4 * i + 1] us[4 * i + 2] us[4 * i + 3])) ∧ H' = H by obtain ⟨v, H', h, rfl, rfl⟩ := h; exact h
  obtain ⟨b, o, cap, sz, rfl, hsz, hcap⟩ : ∃ b o cap sz, x = .sl b o us.length cap sz ∧ (sz = 0 ∨ sz = 1) ∧ us.length ≤ cap := by
    rcases hx with ⟨rfl, h⟩ | ⟨b, o, cap, sz, e, h1, h2, h3, h4⟩
    · have := congrArg List.length h; rw [cells_length] at this; simp at this; subst this; simp at hi
    · rw [cells_length] at e h4; exact ⟨b, o, cap, sz, e, h3, h4⟩
  have hsub : Reads n H (.sl b (o + 4 * i) (us.length - 4 * i) (cap - 4 * i) sz) (cellsOfBytes (us.drop (4 * i))) := by
    have := Reads.sub (cap' := cap - 4 * i) (sz' := sz) (L := cellsOfBytes us) (by rw [cells_length]; exact hx) (i := 4 * i) (e := us.length - 4 * i) (by rw [cells_length]; omega) ⟨hsz, by omega⟩
    rw [List.take_of_length_le (by simp [cells_length]), bcells_drop] at this
    exact this
  have hdl : (us.drop (4 * i)).length = us.length - 4 * i := by simp
  have at' : ∀ j (hj : j < 4), ∃ b' o', fIdxS 1 (.sl b (o + 4 * i) (us.length - 4 * i) (cap - 4 * i) sz) (.int .i64 (.ofNat j)) = some (.ptr b' o') ∧ hload H b' o' = some (.int .u8 (.ofNat (us[4 * i + j]'(by omega)))) := by
    intro j hj
    obtain ⟨b', o', e1, e2⟩ := hsub.fIdx (i := j) (by rw [cells_length]; omega)
    refine ⟨b', o', e1, ?_⟩
    rw [e2, bcells_at _ j (by omega)]
    simp
  obtain ⟨b0, o0, i0, l0⟩ := at' 0 (by omega)
  obtain ⟨b1, o1, i1, l1⟩ := at' 1 (by omega)
  obtain ⟨b2, o2, i2, l2⟩ := at' 2 (by omega)
  obtain ⟨b3, o3, i3, l3⟩ := at' 3 (by omega)
  have u0 := hu _ (List.getElem_mem (h := (show 4 * i < us.length by omega)))
  have u1 := hu _ (List.getElem_mem (h := (show 4 * i + 1 < us.length by omega)))
  have u2 := hu _ (List.getElem_mem (h := (show 4 * i + 2 < us.length by omega)))
  have u3 := hu _ (List.getElem_mem (h := (show 4 * i + 3 < us.length by omega)))
  simp only [Nat.add_zero] at l0
  generalize us[4 * i] = c0 at *
  generalize us[4 * i + 1] = c1 at *
  generalize us[4 * i + 2] = c2 at *
  generalize us[4 * i + 3] = c3 at *
  have w0 : wrapI .i64 (.ofNat c0) = .ofNat c0 := wrap_nat (by omega)
  have w1 : wrapI .i64 (.ofNat c1) = .ofNat c1 := wrap_nat (by omega)
  have w2 : wrapI .i64 (.ofNat c2) = .ofNat c2 := wrap_nat (by omega)
  have w3 : wrapI .i64 (.ofNat c3) = .ofNat c3 := wrap_nat (by omega)
  have s0 : binOpA .shl (.int .i64 (.ofNat c0)) (.int .u64 (.ofNat 24)) = some (.int .i64 (.ofNat (c0 * 16777216))) := shl_ok (a := c0) (k := 24) u0 (by omega)
  have s1 : binOpA .shl (.int .i64 (.ofNat c1)) (.int .u64 (.ofNat 16)) = some (.int .i64 (.ofNat (c1 * 65536))) := shl_ok (a := c1) (k := 16) u1 (by omega)
  have s2 : binOpA .shl (.int .i64 (.ofNat c2)) (.int .u64 (.ofNat 8)) = some (.int .i64 (.ofNat (c2 * 256))) := shl_ok (a := c2) (k := 8) u2 (by omega)
  have p1 : c0 * 16777216 ||| c1 * 65536 = c0 * 16777216 + c1 * 65536 := or_sum (a := c0) (b := c1 * 65536) (k := 24) (by show _ < 16777216; omega)
  have p2 : c0 * 16777216 + c1 * 65536 ||| c2 * 256 = c0 * 16777216 + c1 * 65536 + c2 * 256 := by
    have := or_sum (a := c0 * 256 + c1) (b := c2 * 256) (k := 16) (by show _ < 65536; omega)
    rw [show (c0 * 256 + c1) * 2 ^ 16 = c0 * 16777216 + c1 * 65536 by show (c0 * 256 + c1) * 65536 = _; omega] at this
    exact this
  have p3 : c0 * 16777216 + c1 * 65536 + c2 * 256 ||| c3 = num4 c0 c1 c2 c3 := by
    have := or_sum (a := c0 * 65536 + c1 * 256 + c2) (b := c3) (k := 8) (by show _ < 256; omega)
    rw [show (c0 * 65536 + c1 * 256 + c2) * 2 ^ 8 = c0 * 16777216 + c1 * 65536 + c2 * 256 by show (c0 * 65536 + c1 * 256 + c2) * 256 = _; omega] at this
    exact this
  have r1 : binOpA .or (.int .i64 (.ofNat (c0 * 16777216))) (.int .i64 (.ofNat (c1 * 65536))) = some (.int .i64 (.ofNat (c0 * 16777216 + c1 * 65536))) := or_ok' p1 (by omega)
  have r2 : binOpA .or (.int .i64 (.ofNat (c0 * 16777216 + c1 * 65536))) (.int .i64 (.ofNat (c2 * 256))) = some (.int .i64 (.ofNat (c0 * 16777216 + c1 * 65536 + c2 * 256))) := or_ok' p2 (by omega)
  have r3 : binOpA .or (.int .i64 (.ofNat (c0 * 16777216 + c1 * 65536 + c2 * 256))) (.int .i64 (.ofNat c3)) = some (.int .i64 (.ofNat (num4 c0 c1 c2 c3))) := or_ok' p3 (by unfold num4; omega)
  refine CallS.by (R := fun v H' => v = .int .i64 (.ofNat (num4 c0 c1 c2 c3)) ∧ H' = H) (t0 := tput (tput .l (some (Pos.ofNat 0)) (.sl b o us.length cap sz)) (some (Pos.ofNat 1)) (.int .i64 (.ofNat i))) (C.s _ rfl) rfl C.f39 rfl ?_
  have hm : binOpA .mul (.int .i64 (.ofNat 4)) (.int .i64 (.ofNat i)) = some (.int .i64 (.ofNat (4 * i))) := b_mul (by omega)
  have hsl : ∀ {t : PT AVal}, tget t (Pos.ofNat 7) = .int .i64 (.ofNat (4 * i)) → sliceA t (.sl 1) (.sl b o us.length cap sz) (some (.t (Pos.ofNat 7))) none none = some (.sl b (o + 4 * i) (us.length - 4 * i) (cap - 4 * i) sz) :=
    fun h => sliceA_lo (by simpa [AOpnd.ev] using h) hsz (by omega) hcap
  refine W.seq (W.region ?_)
  simp (maxDischargeDepth := 9) only [auW, auC, auT, lget, BEq.rfl, beq_self_eq_true, decide_true, decide_false, reduceCtorEq, Nat.reduceLT, Nat.reduceEqDiff, ↓reduceIte, g39r0]
  refine W.seq (W.region ?_)
  simp (maxDischargeDepth := 9) only [auW, auC, auT, lget, BEq.rfl, beq_self_eq_true, decide_true, decide_false, reduceCtorEq, Nat.reduceLT, Nat.reduceEqDiff, ↓reduceIte, g39r1, hm, hsl]
  refine W.seq (W.draw ?_)
  simp (maxDischargeDepth := 9) only [auD, auC, auT, lget, BEq.rfl, beq_self_eq_true, decide_true, decide_false, reduceCtorEq, Nat.reduceLT, Nat.reduceEqDiff, ↓reduceIte, g39d2, i0, i1, i2, i3, l0, l1, l2, l3, w0, w1, w2, w3, s0, s1, s2, r1, r2, r3]
  refine W.ret ?_
  exact ⟨.inr rfl, rfl, _, by simp only [resultA, g39, tget_puts, Nat.reduceLT, ↓reduceIte], rfl, rfl⟩
end
end Go.Am
end

section
namespace Go.Am
open Go

def nums4 : List Nat → List Nat
  | a :: b :: c :: d :: l => num4 a b c d :: nums4 l
  | _ => []
theorem nums4_length : ∀ (us : List Nat), (nums4 us).length = us.length / 4
  | [] => rfl
  | [_] => by simp [nums4]
  | [_, _] => by simp [nums4]
  | [_, _, _] => by simp [nums4]
  | a :: b :: c :: d :: l => by simp [nums4, nums4_length l]; omega
theorem nums4_at : ∀ (us : List Nat) (i : Nat) (h : 4 * i + 4 ≤ us.length), (nums4 us)[i]'(by rw [nums4_length]; omega) = num4 us[4 * i] us[4 * i + 1] us[4 * i + 2] us[4 * i + 3]
  | [], i, h => by simp at h
  | [_], i, h => by simp at h
  | [_, _], i, h => by simp at h
  | [_, _, _], i, h => by simp at h
  | a :: b :: c :: d :: l, 0, _ => by simp [nums4]
  | a :: b :: c :: d :: l, i + 1, h => by
    have := nums4_at l i (by simp at h; omega)
    simp only [nums4, List.getElem_cons_succ, this]
    simp [show 4 * (i + 1) = 4 * i + 4 by omega]
/-- The numbers of all payloads. -/
def allNums (uss : List (List Nat)) : List Nat := uss.flatMap nums4
theorem allNums_length (uss : List (List Nat)) : (allNums uss).length ≤ (uss.flatMap id).length := by
  induction uss with
  | nil => simp [allNums]
  | cons us uss ih =>
    simp only [allNums, List.flatMap_cons, List.length_append, nums4_length, id] at ih ⊢
    omega
theorem b4_num (m : Nat) (h : m < 4294967296) : num4 (m / 16777216 % 256) (m / 65536 % 256) (m / 256 % 256) (m % 256) = m := by unfold num4; omega
theorem nums4_all4 : ∀ (l : List Nat), (∀ m ∈ l, m < 4294967296) → nums4 (all4 l) = l
  | [], _ => rfl
  | m :: l, h => by
    have := nums4_all4 l (fun x hx => h x (by simp [hx]))
    show nums4 (b4 m ++ all4 l) = _
    simp only [b4, List.cons_append, List.nil_append, nums4, this, b4_num m (h m (by simp))]
theorem chs_flat (ns : List Nat) (hm : ∀ m ∈ ns, m < 4294967296) (k : Nat) : allNums (chs ns k) = ns.take (200 * k) := by
  induction k with
  | zero => simp [chs, allNums]
  | succ k ih =>
    rw [chs_succ]
    simp only [allNums, List.flatMap_append, List.flatMap_cons, List.flatMap_nil, List.append_nil] at ih ⊢
    rw [ih, nums4_all4 _ (fun m h => hm m (List.mem_of_mem_drop (List.mem_of_mem_take h)))]
    rw [show 200 * (k + 1) = 200 * k + 200 by omega, List.take_add]
theorem allNums_chs (ns : List Nat) (hm : ∀ m ∈ ns, m < 4294967296) : allNums (chs ns (kc ns)) = ns := by
  rw [chs_flat ns hm, List.take_of_length_le]
  unfold kc
  omega
/-- These temporaries are as they were. -/
def Pres (ps : List Nat) (t0 t : PT AVal) : Prop := ∀ p ∈ ps, tget t (Pos.ofNat p) = tget t0 (Pos.ofNat p)
theorem Pres.refl (ps : List Nat) (t : PT AVal) : Pres ps t t := fun _ _ => rfl
theorem Pres.trans {ps : List Nat} {a b c : PT AVal} (h : Pres ps a b) (k : Pres ps b c) : Pres ps a c := fun p hp => (k p hp).trans (h p hp)
theorem Pres.put {ps : List Nat} {t0 t : PT AVal} {q : Nat} {v : AVal} (h : Pres ps t0 t) (hq : q < 2147483648) (hps : ∀ p ∈ ps, p < 2147483648 ∧ q ≠ p) : Pres ps t0 (tput t (some (Pos.ofNat q)) v) := by
  intro p hp
  obtain ⟨h1, h2⟩ := hps p hp
  rw [tget_puts _ hq h1, if_neg h2]
  exact h p hp
theorem Grows.keep0 {n : Nat} {H : AHeap} {v : AVal} {l : List AVal} {m : Nat} (h : Grows n H v l) (hm : m ≤ n) : Grows m H v l := by
  rcases h with h | ⟨b, e, h, h1, h2⟩
  · exact .inl h
  · exact .inr ⟨b, e, h, by omega, h2⟩

section
variable {E : Env} (C : CodeOk2 E)
include C

/-- The numbers of one payload. -/
theorem dec_inner {N : Nat} {H0 : AHeap} {x : AVal} {us acc : List Nat} (hx : Reads N H0 x (cellsOfBytes us)) (hN : N ≤ H0.nx.toNat) (hu : ∀ u ∈ us, u < 256) (hl : us.length ≤ 1073741824) (ha : acc.length ≤ 1073741824) {ps : List Nat} (hps : ∀ p ∈ ps, p < 20) (h10 : 10 ∉ ps) (h13 : 13 ∉ ps) {t0 : PT AVal} {ro : Option Pos} :
    ∀ (n : Nat) (t : PT AVal) (H : AHeap), (∃ i lv, i + n = us.length / 4 ∧ tget t (Pos.ofNat 12) = x ∧ tget t (Pos.ofNat 25) = .int .i64 (.ofNat (us.length / 4)) ∧ tget t (Pos.ofNat 26) = .int .i64 (.ofNat i) ∧ tget t (Pos.ofNat 10) = lv ∧ Grows N H lv (icells (acc ++ (nums4 us).take i)) ∧ Keep N H0 H ∧ Pres ps t0 t) →
    W E (.loop g20l10) ro ⟨t, []⟩ H (fun e a H' => e = .exit 2 ∧ a.ds = [] ∧ Grows N H' (tget a.t (Pos.ofNat 10)) (icells (acc ++ nums4 us)) ∧ Keep N H0 H' ∧ Pres ps t0 a.t) := by
  refine W.loop_inv (Q := fun e a H' => e = .exit 2 ∧ a.ds = [] ∧ Grows N H' (tget a.t (Pos.ofNat 10)) (icells (acc ++ nums4 us)) ∧ Keep N H0 H' ∧ Pres ps t0 a.t) _ ?_
  rintro n t H ⟨i, lv, hi, h12, h25, h26, hlv, hg, hk, hp⟩
  refine W.seq (W.region ?_)
  simp (maxDischargeDepth := 9) only [auW, auC, auT, lget, BEq.rfl, beq_self_eq_true, decide_true, decide_false, reduceCtorEq, Nat.reduceLT, Nat.reduceEqDiff, ↓reduceIte, g20r6, h25, h26]
  refine W.seq (W.cond_if (p := i < us.length / 4) (by simp [AOpnd.ev, tget_puts]) (fun hlt => W.skip ?_) (fun hge => W.exit ?_))
  rotate_left
  · have hii : i = us.length / 4 := by omega
    refine ⟨rfl, rfl, ?_, hk, hp.put (by decide) (fun p h => ⟨by have := hps p h; omega, by have := hps p h; omega⟩)⟩
    rw [tget_puts _ (by decide) (by decide)]
    simp only [Nat.reduceEqDiff, ↓reduceIte, hlv]
    rw [hii, List.take_of_length_le (by rw [nums4_length]; omega)] at hg
    exact hg
  have hi4 : 4 * i + 4 ≤ us.length := by omega
  have hnum := number_ok C (hx.keep hk (Nat.le_refl _)) hu hi4 hl
  refine W.seq (W.block (W.seq (W.region ?_)))
  simp (maxDischargeDepth := 9) only [auW, auC, auT, lget, BEq.rfl, beq_self_eq_true, decide_true, decide_false, reduceCtorEq, Nat.reduceLT, Nat.reduceEqDiff, ↓reduceIte, g20r7, h26]
  refine W.region ?_
  simp (maxDischargeDepth := 9) only [auW, auC, auT, lget, BEq.rfl, beq_self_eq_true, decide_true, decide_false, reduceCtorEq, Nat.reduceLT, Nat.reduceEqDiff, ↓reduceIte, g20r8, h12, hlv]
  refine wo_callE (hnum) (by simp only [auT, Nat.reduceLT, Nat.reduceEqDiff, ↓reduceIte, h12, h26]) ?_
  refine wo_buildSlice (fill1 (v := .int .i64 (.ofNat (num4 us[4 * i] us[4 * i + 1] us[4 * i + 2] us[4 * i + 3]))) (by simp [-Int.ofNat_eq_natCast, AOpnd.ev, tget_puts]) rfl) ?_
  have hNn : N ≤ H.nx.toNat := Nat.le_trans hN hk.nx
  obtain ⟨v', H', e3, r3, k3⟩ := append_grows (by' := 8) (hg.keep (keep_new (x := .cells [.int .i64 (.ofNat (num4 us[4 * i] us[4 * i + 1] us[4 * i + 2] us[4 * i + 3]))] false false))) src_new (Nat.le_trans hNn keep_new.nx) (by simp) rfl (by
    rw [icells_length]; simp [nums4_length]; omega)
  refine wo_append (by simpa [AOpnd.ev, tget_puts, hlv] using e3) ?_
  simp (maxDischargeDepth := 9) only [auW, auC, auT, lget, BEq.rfl, beq_self_eq_true, decide_true, decide_false, reduceCtorEq, Nat.reduceLT, Nat.reduceEqDiff, ↓reduceIte]
  simp only [andThen, inBlock]
  refine W.region ?_
  simp (maxDischargeDepth := 9) only [auW, auC, auT, lget, BEq.rfl, beq_self_eq_true, decide_true, decide_false, reduceCtorEq, Nat.reduceLT, Nat.reduceEqDiff, ↓reduceIte, h26, b_add (show i + 1 ≤ 9223372036854775807 by omega)]
  refine ⟨by trivial, n - 1, by omega, i + 1, v', by omega, ?_, ?_, ?_, ?_, ?_, ?_, ?_⟩
  · simp only [tget_puts, Nat.reduceLT, Nat.reduceEqDiff, ↓reduceIte, h12]
  · simp only [tget_puts, Nat.reduceLT, Nat.reduceEqDiff, ↓reduceIte, h25]
  · simp only [tget_puts, Nat.reduceLT, Nat.reduceEqDiff, ↓reduceIte]
  · simp only [tget_puts, Nat.reduceLT, Nat.reduceEqDiff, ↓reduceIte]
  · have hlt' : i < (nums4 us).length := by rw [nums4_length]; exact hlt
    rw [List.take_succ_eq_append_getElem hlt', nums4_at us i hi4, ← List.append_assoc]
    simpa [icells] using r3
  · exact hk.trans ((keep_new.mono hNn).trans k3)
  · (try dsimp only); repeat (refine Pres.put ?_ (by decide) (fun p h => ⟨by have := hps p h; omega, by have := hps p h; first | omega | (rintro rfl; exact h10 h) | (rintro rfl; exact h13 h)⟩))
    exact hp
end
end Go.Am
end
