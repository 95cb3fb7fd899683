/- Part of the proof: AmSeat, AmSame, AmSeat2, AmSeat3. -/
import Derived.Test.YtpphacngohhmhaaGreatDoorAm15
set_option linter.unusedSimpArgs false
set_option linter.unusedVariables false
section
namespace Go.Am
open Go Go.RowKit

/-! Tables made from lists. -/
theorem tysOf_get {t : Nat} (ht : t < 2 ^ 31) : ∀ (l : List TypeInfo) (n : Nat) (tr : PT TypeInfo), n + l.length ≤ 2 ^ 31 →
    PT.get (Pos.ofNat t) (tysOf l n tr) = if n ≤ t ∧ t < n + l.length then l[t - n]? else PT.get (Pos.ofNat t) tr
  | [], n, tr, _ => by
    rw [if_neg (by simp only [List.length_nil]; omega)]; rfl
  | i :: l, n, tr, h => by
    simp only [List.length_cons] at h
    simp only [tysOf]
    rw [tysOf_get ht l (n + 1) _ (by omega)]
    simp only [List.length_cons]
    by_cases h1 : n + 1 ≤ t ∧ t < n + 1 + l.length
    · rw [if_pos h1, if_pos (by omega)]
      obtain ⟨k, hk⟩ : ∃ k, t - n = k + 1 := ⟨t - n - 1, by omega⟩
      rw [hk, List.getElem?_cons_succ]
      congr 1
      omega
    · rw [if_neg h1]
      by_cases h2 : t = n
      · subst h2
        rw [PT.get_set_same, if_pos (by omega)]
        simp
      · rw [PT.get_set_other _ _ _ _ (fun e => h2 (Pos.ofNat_inj (by omega) ht e).symm), if_neg (by omega)]

theorem TOk.of_list {P : Program} {ng : Nat} {cmps : List TypeId} (hlen : P.types.size ≤ 2 ^ 31) (hinfo : ∀ t i, P.types[t]? = some i → P.info? t = some i) : TOk ⟨tysOf P.types.toList 0 .l, ng, cmps⟩ P := by
  refine ⟨fun t i h => hinfo t i ?_⟩
  unfold Tys.get at h
  split at h
  · rename_i ht
    have ht : t < 2 ^ 31 := by simpa [Nat.blt_eq] using ht
    rw [tysOf_get ht _ _ _ (by simpa using hlen)] at h
    split at h
    · simpa using h
    · have : PT.get (Pos.ofNat t) (PT.l : PT TypeInfo) = none := by cases Pos.ofNat t <;> rfl
      rw [this] at h; cases h
  · cases h

def putFns (T : Tys) : List (Nat × Func) → PT AFun → PT AFun
  | [], t => t
  | (n, f) :: l, t => putFns T l (PT.set (Pos.ofNat n) (compFun T f) t)
def putAll {α : Type} : List (Nat × α) → PT α → PT α
  | [], t => t
  | (n, s) :: l, t => putAll l (PT.set (Pos.ofNat n) (some s) t)

theorem get_nil {α : Type} (p : Pos) : PT.get p (.l : PT α) = none := by cases p <;> rfl

theorem putFns_get {T : Tys} {f : Nat} (hf : f < 2 ^ 31) {fi : AFun} : ∀ {l : List (Nat × Func)} {t : PT AFun}, (∀ p ∈ l, p.1 < 2 ^ 31) → PT.get (Pos.ofNat f) (putFns T l t) = some fi →
    (∃ p ∈ l, p.1 = f ∧ compFun T p.2 = some fi) ∨ PT.get (Pos.ofNat f) t = some fi
  | [], t, _, h => .inr h
  | (n, g) :: l, t, hl, h => by
    simp only [putFns] at h
    rcases putFns_get hf (fun p hp => hl p (List.mem_cons_of_mem _ hp)) h with ⟨p, hp, h1⟩ | h
    · exact .inl ⟨p, List.mem_cons_of_mem _ hp, h1⟩
    · by_cases e : n = f
      · subst e
        rw [PT.get_set_same] at h
        exact .inl ⟨(n, g), by simp, rfl, h⟩
      · rw [PT.get_set_other _ _ _ _ (fun h' => e (Pos.ofNat_inj (hl (n, g) (by simp)) hf h'))] at h
        exact .inr h
theorem putAll_get {α : Type} {f : Nat} (hf : f < 2 ^ 31) {s : α} : ∀ {l : List (Nat × α)} {t : PT α}, (∀ p ∈ l, p.1 < 2 ^ 31) → PT.get (Pos.ofNat f) (putAll l t) = some s →
    (∃ p ∈ l, p.1 = f ∧ p.2 = s) ∨ PT.get (Pos.ofNat f) t = some s
  | [], t, _, h => .inr h
  | (n, g) :: l, t, hl, h => by
    simp only [putAll] at h
    rcases putAll_get hf (fun p hp => hl p (List.mem_cons_of_mem _ hp)) h with ⟨p, hp, h1⟩ | h
    · exact .inl ⟨p, List.mem_cons_of_mem _ hp, h1⟩
    · by_cases e : n = f
      · subst e
        rw [PT.get_set_same] at h
        exact .inl ⟨(n, g), by simp, rfl, Option.some.inj h⟩
      · rw [PT.get_set_other _ _ _ _ (fun h' => e (Pos.ofNat_inj (hl (n, g) (by simp)) hf h'))] at h
        exact .inr h

/-- What is asked of one summary. -/
def SumOk (P : Program) (T : Tys) (B : Nat) (f : FuncId) (s : List AVal → AHeap → ARes) : Prop :=
  ∀ φ H w args args' v H', HRel T B φ H w → LRel φ args args'.toList → s args H = some (v, H') → CallOk P T B φ H w f args' v H'
def DsumOk (P : Program) (T : Tys) (B : Nat) (f : FuncId) (s : List AVal → AHeap → Option AHeap) : Prop :=
  ∀ φ H w args args' H', HRel T B φ H w → LRel φ args args'.toList → s args H = some H' →
    (callFunc f args').run P w = .ok (.enter f args') w ∧ CallsDIn Fence.wide 0 P f args' .returning w fun e u w' => (∃ v, e = .returned v) ∧ u = .returning ∧ ∃ φ', Sim T B φ H w φ' H' w'

theorem EnvOk.of_lists {P : Program} {T : Tys} {B : Nat} {fs : List (Nat × Func)} {ss : List (Nat × (List AVal → AHeap → ARes))} {dd : List (Nat × (List AVal → AHeap → Option AHeap))}
    (h1 : ∀ p ∈ fs, p.1 < 2 ^ 31 ∧ P.funcs[p.1]? = some p.2 ∧ (p.2.name == "runtime.NumGoroutine") = false) (h2 : ∀ p ∈ ss, p.1 < 2 ^ 31 ∧ SumOk P T B p.1 p.2) (h3 : ∀ p ∈ dd, p.1 < 2 ^ 31 ∧ DsumOk P T B p.1 p.2) :
    EnvOk P T B ⟨putFns T fs .l, putAll ss .l, putAll dd .l⟩ := by
  refine ⟨fun f fi hf h => ?_, fun f s hf h => ?_, fun f s hf h => ?_⟩
  · rcases putFns_get hf (fun p hp => (h1 p hp).1) h with ⟨p, hp, rfl, hc⟩ | h
    · exact ⟨p.2, (h1 p hp).2.1, (h1 p hp).2.2, hc⟩
    · rw [get_nil] at h; cases h
  · rcases putAll_get hf (fun p hp => (h2 p hp).1) h with ⟨p, hp, rfl, rfl⟩ | h
    · exact (h2 p hp).2
    · rw [get_nil] at h; cases h
  · rcases putAll_get hf (fun p hp => (h3 p hp).1) h with ⟨p, hp, rfl, rfl⟩ | h
    · exact (h3 p hp).2
    · rw [get_nil] at h; cases h

/-- A call that has been worked out, as a summary. -/
theorem SumOk.of_one {P : Program} {T : Tys} {B : Nat} {E : Env} {n : Nat} {f : FuncId} {args0 : List AVal} {H0 H1 : AHeap} {v0 : AVal} (hT : TOk2 T P) (hE : EnvOk P T B E) (hm : P.follows .mixedOrders = true) (h : callF E (ev E n) f args0 H0 = some (v0, H1))
    {s : List AVal → AHeap → ARes} (hs : ∀ args H v H', s args H = some (v, H') → args = args0 ∧ H = H0 ∧ v = v0 ∧ H' = H1) : SumOk P T B f s := by
  intro φ H w args args' v H' hH hl hc
  obtain ⟨rfl, rfl, rfl, rfl⟩ := hs _ _ _ _ hc
  exact .inl (runA_ok hT hE hm hH hl h)
end Go.Am
end

section
namespace Go.Am

/-! Two heaps are one. -/
mutual
def eqvV : AVal → AVal → Bool
  | .any, .any => true
  | .func f a b, .func g c d => Nat.beq f g && (eqvL a c && eqvL b d)
  | .iface t v, .iface u w => Nat.beq t u && eqvV v w
  | .agg l, .agg m => eqvL l m
  | .tup l, .tup m => eqvL l m
  | a, b => same a b
def eqvL : List AVal → List AVal → Bool
  | [], [] => true
  | a :: l, b :: m => eqvV a b && eqvL l m
  | _, _ => false
end
def eqvP : List (AVal × AVal) → List (AVal × AVal) → Bool
  | [], [] => true
  | (a, b) :: l, (c, d) :: m => eqvV a c && (eqvV b d && eqvP l m)
  | _, _ => false
def eqvO : AObj → AObj → Bool
  | .cells l a b, .cells m c d => (a == c) && ((b == d) && eqvL l m)
  | .map l, .map m => eqvP l m
  | .dfr a, .dfr b => a == b
  | _, _ => false
def eqvOO : Option AObj → Option AObj → Bool
  | none, none => true
  | some a, some b => eqvO a b
  | _, _ => false
def eqvT : PT AObj → PT AObj → Bool
  | .l, .l => true
  | .n a v b, .n c w d => eqvOO v w && (eqvT a c && eqvT b d)
  | _, _ => false
def eqvH (h k : AHeap) : Bool := Pos.beq h.nx k.nx && eqvT h.t k.t

mutual
theorem eqvV_eq : ∀ (a b : AVal), eqvV a b = true → a = b
  | .any, b, h => by cases b <;> first | rfl | (simp [eqvV, same] at h; done)
  | .func f x y, b, h => by
    cases b <;> first
      | (simp [eqvV, same] at h; done)
      | skip
    simp only [eqvV, Bool.and_eq_true] at h
    rw [Nat.eq_of_beq_eq_true h.1, eqvL_eq _ _ h.2.1, eqvL_eq _ _ h.2.2]
  | .iface t v, b, h => by
    cases b <;> first
      | (simp [eqvV, same] at h; done)
      | skip
    simp only [eqvV, Bool.and_eq_true] at h
    rw [Nat.eq_of_beq_eq_true h.1, eqvV_eq _ _ h.2]
  | .agg l, b, h => by
    cases b <;> first
      | (simp [eqvV, same] at h; done)
      | skip
    simp only [eqvV] at h
    rw [eqvL_eq _ _ h]
  | .tup l, b, h => by
    cases b <;> first
      | (simp [eqvV, same] at h; done)
      | skip
    simp only [eqvV] at h
    rw [eqvL_eq _ _ h]
  | .bool x, b, h => same_eq (by cases b <;> exact h)
  | .int k x, b, h => same_eq (by cases b <;> exact h)
  | .str x, b, h => same_eq (by cases b <;> exact h)
  | .pnil, b, h => same_eq (by cases b <;> exact h)
  | .ptr x y, b, h => same_eq (by cases b <;> exact h)
  | .snil, b, h => same_eq (by cases b <;> exact h)
  | .sl x y z u v, b, h => same_eq (by cases b <;> exact h)
  | .mnil, b, h => same_eq (by cases b <;> exact h)
  | .map x, b, h => same_eq (by cases b <;> exact h)
  | .fnil, b, h => same_eq (by cases b <;> exact h)
  | .yld x, b, h => same_eq (by cases b <;> exact h)
  | .inil, b, h => same_eq (by cases b <;> exact h)
theorem eqvL_eq : ∀ (a b : List AVal), eqvL a b = true → a = b
  | [], b, h => by cases b <;> simp_all [eqvL]
  | x :: l, b, h => by
    cases b with
    | nil => simp [eqvL] at h
    | cons y m =>
      simp only [eqvL, Bool.and_eq_true] at h
      rw [eqvV_eq _ _ h.1, eqvL_eq _ _ h.2]
end
theorem eqvP_eq : ∀ (a b : List (AVal × AVal)), eqvP a b = true → a = b
  | [], b, h => by cases b <;> simp_all [eqvP]
  | (x, y) :: l, b, h => by
    cases b with
    | nil => simp [eqvP] at h
    | cons z m =>
      obtain ⟨z1, z2⟩ := z
      simp only [eqvP, Bool.and_eq_true] at h
      rw [eqvV_eq _ _ h.1, eqvV_eq _ _ h.2.1, eqvP_eq _ _ h.2.2]
theorem eqvO_eq (a b : AObj) (h : eqvO a b = true) : a = b := by
  cases a <;> cases b <;> first
    | (simp [eqvO] at h; done)
    | skip
  · simp only [eqvO, Bool.and_eq_true, beq_iff_eq] at h
    rw [h.1, h.2.1, eqvL_eq _ _ h.2.2]
  · simp only [eqvO] at h
    rw [eqvP_eq _ _ h]
  · simp only [eqvO, beq_iff_eq] at h
    rw [h]
theorem eqvT_eq : ∀ (a b : PT AObj), eqvT a b = true → a = b
  | .l, b, h => by cases b <;> simp_all [eqvT]
  | .n a v c, b, h => by
    cases b with
    | l => simp [eqvT] at h
    | n a' v' c' =>
      simp only [eqvT, Bool.and_eq_true] at h
      have hv : v = v' := by
        cases v <;> cases v' <;> first
          | rfl
          | (simp [eqvOO] at h; done)
          | skip
        rw [eqvO_eq _ _ h.1]
      rw [hv, eqvT_eq _ _ h.2.1, eqvT_eq _ _ h.2.2]
theorem eqvH_eq (h k : AHeap) (e : eqvH h k = true) : h = k := by
  obtain ⟨ht, hn⟩ := h
  obtain ⟨kt, kn⟩ := k
  simp only [eqvH, Bool.and_eq_true] at e
  rw [Pos.beq_eq.1 e.1, eqvT_eq _ _ e.2]
end Go.Am
end

section
namespace Go.Am
open Go Go.RowKit

def zeroFits (i : TypeInfo) : Bool := match i.zero with
  | some v => Nat.beq v.cells.size i.size
  | none => true
theorem TOk2.of_list {P : Program} {ng : Nat} {cmps : List TypeId} (hlen : P.types.size ≤ 2 ^ 31) (hinfo : ∀ t i, P.types[t]? = some i → P.info? t = some i) (hz : P.types.toList.all zeroFits = true) (hc : (cmps.all fun t => !P.stoodInHeld t) = true) :
    TOk2 ⟨tysOf P.types.toList 0 .l, ng, cmps⟩ P := by
  refine ⟨TOk.of_list hlen hinfo, fun t ht => ?_, fun t i v h hv => ?_⟩
  · have := List.all_eq_true.1 hc t (by simpa using ht)
    simpa using this
  · unfold Tys.get at h
    split at h
    · rename_i htt
      have htt : t < 2 ^ 31 := by simpa [Nat.blt_eq] using htt
      rw [tysOf_get htt _ _ _ (by simpa using hlen)] at h
      split at h
      · have := List.all_eq_true.1 hz i (List.mem_of_getElem? h)
        unfold zeroFits at this
        rw [hv] at this
        exact Nat.eq_of_beq_eq_true this
      · rw [get_nil] at h; cases h
    · cases h
end Go.Am
end

section
namespace Go.Am
open Go
theorem info_of_types {P : Program} (t : TypeId) (i : TypeInfo) (h : P.types[t]? = some i) : P.info? t = some i := by
  have hlt : t < P.types.size := by
    rcases Nat.lt_or_ge t P.types.size with h' | h'
    · exact h'
    · rw [Array.getElem?_eq_none h'] at h; cases h
  show (if t < P.types.size then P.types[t]? else _) = some i
  rw [if_pos hlt, h]
end Go.Am
end
