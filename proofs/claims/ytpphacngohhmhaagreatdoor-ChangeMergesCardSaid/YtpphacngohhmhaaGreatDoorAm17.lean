/- Part of the proof: AmExt, AmExt2, AmExt3. -/
import Derived.Test.YtpphacngohhmhaaGreatDoorAm16
import Derived.Laws.Externs
import Derived.Lib.Bytealg
set_option linter.unusedSimpArgs false
set_option linter.unusedVariables false
section
namespace Go.Am
open Go Go.RowKit

/-! Rows of the library, as summaries. -/
def bstr (h : AHeap) : AVal → Option (List Nat)
  | .str s => some s
  | .snil => some []
  | .sl b o len _ _ => match hloadN h b o len with
    | some l => match Am.bytesOf l with
      | some s => match s.all fun n => Nat.blt n 256 with
        | true => some s
        | false => none
      | none => none
    | none => none
  | _ => none

section
variable {P : Program} {T : Tys} {B : Nat} {φ : Emb} {H : AHeap} {w : World}

theorem run_loadBytes (c : Nat) : ∀ (s : List Nat) (o : Nat) (acc : List Nat), (∀ j n, s[j]? = some n → w.cell? ⟨c, o + j, none⟩ = some (.int .u8 (n : Nat))) → (Extern.Bytes.loadBytes ⟨c, o, none⟩ s.length (strV acc)).run P w = .ok (strV (acc ++ s)) w
  | [], o, acc, _ => by simp [Extern.Bytes.loadBytes]
  | n :: s, o, acc, h => by
    have h0 : w.cell? ⟨c, o, none⟩ = some (.int .u8 (n : Nat)) := h 0 n rfl
    have hl : (load ⟨c, o, none⟩).run P w = .ok (.int .u8 (n : Nat)) w := by simp [h0]
    have hp : (strV acc).push ((n : Int).toNat.toUInt8) = strV (acc ++ [n]) := by
      apply ByteArray.ext
      apply Array.ext'
      simp [strV, ByteArray.push]
    simp only [List.length_cons, Extern.Bytes.loadBytes, Sem.run_bind, hl, Result.andThen_ok, addr_add]
    rw [hp, run_loadBytes c s (o + 1) (acc ++ [n]) (fun j m hj => by
      have := h (j + 1) m (by simpa using hj)
      rw [show o + 1 + j = o + (j + 1) by omega]; exact this)]
    simp

theorem bstr_ok (hH : HRel T B φ H w) {x : AVal} {u : Value} (hu : VRel φ x u) {s : List Nat} (h : bstr H x = some s) : (Extern.Bytes.bytesOf u).run P w = .ok (strV s) w ∧ ∀ n ∈ s, n < 256 := by
  unfold bstr at h
  split at h
  · cases h
    obtain ⟨e, hlt⟩ := VRel.str_inv hu
    exact ⟨by simp [e, Extern.Bytes.bytesOf], hlt⟩
  · cases h
    have e : u = .slice none 0 0 := hu
    exact ⟨by simp [e, Extern.Bytes.bytesOf]; rfl, by simp⟩
  · rename_i b o len cap k
    split at h
    · rename_i l hl
      split at h
      · rename_i s' hs
        split at h
        · rename_i hall
          cases h
          obtain ⟨y, a', cap', e1, e2, e3, e4, e5, _⟩ := sl_addr hu
          obtain ⟨us, g1, g2, g3, g4⟩ := hloadN_ok (P := P) hH e1 hl
          have hus := bytesOf_ok hs g2
          have hlen : s.length = len := by rw [← g1, hus]; simp
          refine ⟨?_, bytesOf_lt hall⟩
          rw [e2]
          simp only [Extern.Bytes.bytesOf]
          rcases Nat.eq_zero_or_pos len with h0 | h0
          · have : s = [] := List.length_eq_zero_iff.1 (by omega)
            subst this
            rw [h0]
            simp [Extern.Bytes.loadBytes]
            rfl
          · have ha : a' = ⟨y.c, y.s + o, none⟩ := by
              rcases e5 with h | h
              · exact h
              · omega
            have := run_loadBytes (P := P) (w := w) y.c s (y.s + o) [] (fun j n hj => g3 j _ (by rw [hus]; simp [hj]))
            rw [hlen] at this
            rw [ha]
            rw [List.nil_append] at this
            exact this
        · cases h
      · cases h
    · cases h
  · cases h
end
end Go.Am
end

section
namespace Go.Am
open Go Go.RowKit

def cnt (c : Nat) : List Nat → Nat → Nat
  | [], n => n
  | x :: l, n => match Nat.beq x c with
    | true => cnt c l (Nat.succ n)
    | false => cnt c l n
def sCountString : List AVal → AHeap → ARes
  | [.str s, .int .u8 (.ofNat c)], h => match Nat.blt c 256 with
    | true => some (.int .i64 (.ofNat (cnt c s 0)), h)
    | false => none
  | _, _ => none

theorem cnt_eq (c : Nat) (hc : c < 256) : ∀ (s : List Nat) (n : Nat), (∀ x ∈ s, x < 256) → cnt c s n = n + (s.map UInt8.ofNat).count (UInt8.ofNat c)
  | [], n, _ => by simp [cnt]
  | x :: s, n, h => by
    have hx := h x (by simp)
    have ih := fun n => cnt_eq c hc s n fun y hy => h y (List.mem_cons_of_mem _ hy)
    simp only [List.map_cons, List.count_cons, cnt]
    by_cases e : x = c
    · subst e
      rw [Nat.beq_refl]
      simp only [ih]
      simp
      omega
    · have h1 : Nat.beq x c = false := by
        cases hb : Nat.beq x c with
        | false => rfl
        | true => exact absurd (Nat.eq_of_beq_eq_true hb) e
      have h2 : ¬ ((UInt8.ofNat x == UInt8.ofNat c) = true) := fun h' => e (ofNat_inj hx hc (by simpa using h'))
      rw [h1, if_neg h2]
      simp only [ih]
      omega

theorem sumOk_countString {P : Program} {T : Tys} {B : Nat} {f : FuncId} {fn : Func} (hf : P.funcs[f]? = some fn) (hname : (fn.name == "runtime.NumGoroutine") = false) (hb : fn.body.isNone = true) (hn : Extern.findNext fn = none)
    (he : Extern.find fn = some Extern.BytealgCount.count) : SumOk P T B f sCountString := by
  intro φ H w args args' v H' hH hl h
  unfold sCountString at h
  split at h
  · rename_i s c
    split at h
    · rename_i hc
      have hc : c < 256 := by simpa [Nat.blt_eq] using hc
      cases h
      obtain ⟨u1, r1, e1, h1, u2, r2, e2, h2, e3⟩ := hl
      subst e2
      have e3 : r2 = [] := e3
      subst e3
      obtain ⟨e4, hlt⟩ := VRel.str_inv h1
      have e5 : u2 = .int .u8 (c : Nat) := h2
      have ha : args' = #[.string (strV s), .int .u8 (c : Nat)] := by
        apply Array.ext'
        rw [e1, e4, e5]
      refine .inr ⟨.int .i64 (cnt c s 0 : Nat), w, φ, ?_, rfl, Sim.refl hH⟩
      rw [run_callFunc_extern hf hname hb hn he, ha]
      have hcount : (Extern.BytealgCount.count #[.string (strV s), .int .u8 (c : Nat)]).run P w = .ok (.int .i64 (cnt c s 0 : Nat)) w := by
        have hcc : ((c : Int).toNat.toUInt8) = UInt8.ofNat c := by simp [Nat.toUInt8]
        have h0 := cnt_eq c hc s 0 hlt
        rw [Go.Lib.run_countString, hcc, h0, Nat.zero_add]
        rfl
      rw [hcount]
      rfl
    · cases h
  · cases h
end Go.Am
end

section
namespace Go.Am
open Go Go.RowKit

def sMapsClone : List AVal → AHeap → ARes
  | [.iface t (.map m)], h => match PT.get m h.t with
    | some (.map es) => match h.new (.map es) with
      | (b, h') => some (.iface t (.map b), h')
    | _ => none
  | _, _ => none

theorem sumOk_mapsClone {P : Program} {T : Tys} {B : Nat} {f : FuncId} {fn : Func} (hf : P.funcs[f]? = some fn) (hname : (fn.name == "runtime.NumGoroutine") = false) (hb : fn.body.isNone = true) (hn : Extern.findNext fn = none)
    (he : Extern.find fn = some Extern.MapsClone.clone) : SumOk P T B f sMapsClone := by
  intro φ H w args args' v H' hH hl h
  unfold sMapsClone at h
  split at h
  · rename_i t m
    split at h
    · rename_i es hm
      cases h
      obtain ⟨u1, r1, e1, h1, e2⟩ := hl
      have e2 : r1 = [] := e2
      subst e2
      obtain ⟨u, e3, y, hy, e4⟩ := h1
      have ha : args' = #[.iface t (.map (some y.c))] := by
        apply Array.ext'
        rw [e1, e3, e4]
      obtain ⟨es', clock, g1, g2, g3⟩ := hH.obj m _ y hm hy
      have hS := Sim.new hH (.map es) (.map es' clock) 0 ⟨es', clock, by show (w.heap.push _)[w.heap.size]? = _; simp, g2, hH.base⟩
      refine .inr ⟨.iface t (.map (some w.heap.size)), _, _, ?_, ⟨_, rfl, _, Emb.put_same _ _ _, rfl⟩, hS⟩
      rw [run_callFunc_extern hf hname hb hn he, ha]
      have hrun : (Extern.MapsClone.clone #[.iface t (.map (some y.c))]).run P w = .ok (.iface t (.map (some w.heap.size))) (w.alloc (.map es' clock)) := by
        change Sem.run P (do
          let .map entries clock ← getObj y.c | stuck "maps.clone: a map expected"
          pure (Value.iface t (.map (some (← newObj (.map entries clock))))) : Sem Value) w = _
        simp only [Sem.run_bind, run_getObj g1 (by simp), Result.andThen_ok, run_newObj_alloc, Sem.run_pure]
      rw [hrun]
      rfl
    · cases h
  · cases h
end Go.Am
end
