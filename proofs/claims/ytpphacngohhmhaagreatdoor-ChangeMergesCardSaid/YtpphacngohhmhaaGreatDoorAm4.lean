/- Part of the proof: AmQuiet, AmQuiet2, AmQuiet3. -/
import Derived.Test.YtpphacngohhmhaaGreatDoorAm3
import Derived.ChangeKeysEq
import Derived.Laws.StructEq
import Derived.Laws.Cover3
import Derived.WideLaws
import Derived.LaidEql
set_option linter.unusedSimpArgs false
set_option linter.unusedVariables false
section
namespace Go.Am
open Go Go.RowKit

/-- What the table says of the types is so. -/
structure TOk (T : Tys) (P : Program) : Prop where
  info : ∀ t i, T.get t = some i → P.info? t = some i

section
variable {P : Program} {T : Tys} {B : Nat} {φ : Emb} {H : AHeap} {w : World} {nt : Nat} {t : PT AVal} {a : Act}

theorem TOk.und (hT : TOk T P) {ty : TypeId} {d : TypeDesc} (h : T.und ty = some d) : P.underlying ty = some d := by
  unfold Tys.und at h
  unfold Program.underlying
  cases hg : T.get ty with
  | none => simp [hg] at h
  | some i =>
    rw [hT.info _ _ hg]
    simp only [hg] at h
    cases hd : i.desc with
    | named n u =>
      simp only [hd] at h
      cases hu : T.get u with
      | none => simp [hu] at h
      | some j =>
        simp only [hu] at h
        obtain ⟨d0, s, sz, bt, hp, al, fa, z, cm, ms⟩ := i
        simp only at hd
        subst hd
        simp [hT.info _ _ hu]
        simpa using h
    | _ =>
      simp only [hd] at h
      obtain ⟨d0, s, sz, bt, hp, al, fa, z, cm, ms⟩ := i
      simp only at hd
      subst hd
      simpa using h
theorem TOk.run_und (hT : TOk T P) {ty : TypeId} {d : TypeDesc} (h : T.und ty = some d) (w : World) : (underlying ty).run P w = .ok d w := run_underlying (hT.und h) w
theorem TOk.run_info (hT : TOk T P) {ty : TypeId} {i : TypeInfo} (h : T.get ty = some i) (w : World) : (typeInfo ty).run P w = .ok i w := by
  simp [typeInfo, hT.info _ _ h]
theorem TOk.run_size (hT : TOk T P) {ty : TypeId} {n : Nat} (h : T.size ty = some n) (w : World) : (sizeOf ty).run P w = .ok n w := by
  unfold Tys.size at h
  cases hg : T.get ty with
  | none => simp [hg] at h
  | some i =>
    simp only [hg] at h
    cases h
    simp [sizeOf, hT.run_info hg]
theorem TOk.run_zero (hT : TOk T P) {ty : TypeId} {z : AVal} (h : zeroOf T ty = some z) (w : World) : ∃ v, (zeroValue ty).run P w = .ok v w ∧ ofConst v = some z := by
  unfold zeroOf at h
  cases hg : T.get ty with
  | none => simp [hg] at h
  | some i =>
    simp only [hg] at h
    cases hz : i.zero with
    | none => simp [hz] at h
    | some v =>
      simp only [hz] at h
      exact ⟨v, by simp [zeroValue, hT.run_info hg, hz], h⟩
theorem TOk.run_isAgg (hT : TOk T P) {ty : TypeId} {b : Bool} (h : T.isAgg ty = some b) (w : World) : (isAgg ty).run P w = .ok b w := by
  unfold Tys.isAgg at h
  unfold isAgg
  split at h
  · rename_i fs hu; cases h; simp [hT.run_und hu]
  · rename_i n e hu; cases h; simp [hT.run_und hu]
  · rename_i d hns hna hu
    cases h
    simp only [Sem.run_bind, hT.run_und hu, Result.andThen_ok]
    rfl
  · cases h

theorem bytesN_lt : ∀ (l : List UInt8), ∀ x ∈ bytesN l, x < 256
  | [], x, h => by cases h
  | b :: l, x, h => by
    rcases List.mem_cons.1 h with rfl | h
    · exact b.toNat_lt
    · exact bytesN_lt l x h
theorem bytesN_map : ∀ (l : List UInt8), (bytesN l).map UInt8.ofNat = l
  | [] => rfl
  | b :: l => by simp [bytesN, bytesN_map l]
theorem cscal_ok : ∀ {v : Value} {x : AVal}, cscal v = some x → VRel φ x v := by
  intro v x h
  unfold cscal at h
  split at h <;> first | (cases h; rfl) | skip
  · cases h
    rename_i s
    refine ⟨?_, bytesN_lt _⟩
    rw [bytesN_map]
  · cases h
theorem cscals_ok : ∀ {l : List Value} {m : List AVal}, cscals l = some m → LRel φ m l
  | [], m, h => by simp [cscals] at h; subst h; rfl
  | v :: l, m, h => by
    simp only [cscals] at h
    split at h
    · rename_i a m' h1 h2
      cases h
      exact ⟨v, l, rfl, cscal_ok h1, cscals_ok h2⟩
    · cases h
theorem ofConst_ok {v : Value} {x : AVal} (h : ofConst v = some x) : VRel φ x v := by
  unfold ofConst at h
  split at h
  · split at h
    · rename_i cs l hl; cases h; exact ⟨_, rfl, cscals_ok hl⟩
    · cases h
  · split at h
    · rename_i cs l hl; cases h; exact ⟨_, rfl, cscals_ok hl⟩
    · cases h
  · split at h
    · rename_i a ha; cases h; exact ⟨_, rfl, cscal_ok ha⟩
    · cases h
  · exact cscal_ok h

theorem opnd_ok (hH : HRel T B φ H w) (ht : TRel φ nt t a.tmps) {x : Operand} {ax : AOpnd} (h : opnd T x = some ax) : VRel φ (ax.ev t) (a.eval x) := by
  cases x with
  | tmp i =>
    simp only [opnd] at h
    split at h
    · rename_i hi
      cases h
      have : i < 2147483648 := by simpa using hi
      exact ht.2.2 i (by omega)
    · cases h
  | const v =>
    simp only [opnd] at h
    split at h
    · rename_i b hb; cases h; exact ofConst_ok hb
    · cases h
  | global g =>
    simp only [opnd] at h
    split at h
    · rename_i hg
      cases h
      obtain ⟨k, e⟩ := hH.glob g (by simpa using hg)
      exact ⟨_, e, by simp [Act.eval]⟩
    · cases h
  | func f =>
    cases h
    exact ⟨#[], #[], rfl, rfl, rfl⟩
theorem opnds_ok (hH : HRel T B φ H w) (ht : TRel φ nt t a.tmps) : ∀ {l : List Operand} {al : List AOpnd}, opnds T l = some al → LRel φ (evs t al) (l.map a.eval)
  | [], al, h => by simp [opnds] at h; subst h; rfl
  | x :: l, al, h => by
    simp only [opnds] at h
    split at h
    · rename_i b m h1 h2
      cases h
      exact ⟨_, _, rfl, opnd_ok hH ht h1, opnds_ok hH ht h2⟩
    · cases h

/-! Reading a value of a known shape. -/
theorem VRel.bool_inv {b : Bool} {v : Value} (h : VRel φ (.bool b) v) : v = .bool b := h
theorem VRel.int_inv {k : IntKind} {n : Int} {v : Value} (h : VRel φ (.int k n) v) : v = .int k n := h
theorem natOf_ok {x : AVal} {n : Nat} {v : Value} (h : natOf x = some n) (hv : VRel φ x v) : ∃ k, v = .int k n := by
  unfold natOf at h
  split at h
  · cases h; exact ⟨_, hv⟩
  · cases h

theorem quiet_move (hH : HRel T B φ H w) (ht : TRel φ nt t a.tmps) {o : Oper} {x : Operand} (ho : o.op = .move x ∨ o.op = .assign x) {ax : AOpnd} (hx : opnd T x = some ax) :
    ∃ u, (execOp a.eval o).run P w = .ok (.value u) w ∧ VRel φ (ax.ev t) u := by
  refine ⟨a.eval x, ?_, opnd_ok hH ht hx⟩
  rcases ho with ho | ho <;> simp [execOp, ho]

theorem quiet_pick (hH : HRel T B φ H w) (ht : TRel φ nt t a.tmps) {o : Oper} {c x y : Operand} (ho : o.op = .pick c x y) {ac ax ay : AOpnd} (hc : opnd T c = some ac) (hx : opnd T x = some ax) (hy : opnd T y = some ay)
    {v : AVal} (h : quiet t H (.pick ac ax ay) = some v) : ∃ u, (execOp a.eval o).run P w = .ok (.value u) w ∧ VRel φ v u := by
  simp only [quiet] at h
  have hcv := opnd_ok hH ht hc
  split at h
  · rename_i hb
    cases h
    rw [hb] at hcv
    exact ⟨_, by simp [execOp, ho, asBool, VRel.bool_inv hcv], opnd_ok hH ht hx⟩
  · rename_i hb
    cases h
    rw [hb] at hcv
    exact ⟨_, by simp [execOp, ho, asBool, VRel.bool_inv hcv], opnd_ok hH ht hy⟩
  · cases h

theorem quiet_load1 (hT : TOk T P) (hH : HRel T B φ H w) (ht : TRel φ nt t a.tmps) {o : Oper} {ty : TypeId} {x : Operand} (ho : o.op = .load ty x) {ax : AOpnd} (hx : opnd T x = some ax) (hg : T.isAgg ty = some false)
    {v : AVal} (h : quiet t H (.load1 ax) = some v) : ∃ u, (execOp a.eval o).run P w = .ok (.value u) w ∧ VRel φ v u := by
  simp only [quiet] at h
  have hxv := opnd_ok hH ht hx
  split at h
  · rename_i b off hb
    rw [hb] at hxv
    obtain ⟨y, hy, e⟩ := hxv
    obtain ⟨u, h1, h2⟩ := hload_ok hH hy h
    exact ⟨u, by simp [execOp, ho, Instr.loadAt, Instr.sureAddr, e, loadVar, hT.run_isAgg hg, h1], h2⟩
  · cases h
theorem quiet_loadN (hT : TOk T P) (hH : HRel T B φ H w) (ht : TRel φ nt t a.tmps) {o : Oper} {ty : TypeId} {x : Operand} (ho : o.op = .load ty x) {ax : AOpnd} (hx : opnd T x = some ax) (hg : T.isAgg ty = some true)
    {n : Nat} (hn : T.size ty = some n) {v : AVal} (h : quiet t H (.loadN n ax) = some v) : ∃ u, (execOp a.eval o).run P w = .ok (.value u) w ∧ VRel φ v u := by
  simp only [quiet] at h
  have hxv := opnd_ok hH ht hx
  split at h
  · rename_i b off hb
    rw [hb] at hxv
    obtain ⟨y, hy, e⟩ := hxv
    split at h
    · rename_i l hl
      cases h
      obtain ⟨us, h1, h2, h3, h4⟩ := hloadN_ok (P := P) hH hy hl
      exact ⟨.agg us.toArray, by simp [execOp, ho, Instr.loadAt, Instr.sureAddr, e, loadVar, hT.run_isAgg hg, hT.run_size hn, h4], us.toArray, rfl, by simpa using h2⟩
    · cases h
  · cases h
theorem quiet_nilCheck (hH : HRel T B φ H w) (ht : TRel φ nt t a.tmps) {o : Oper} {x : Operand} (ho : o.op = .nilCheck x) {ax : AOpnd} (hx : opnd T x = some ax)
    {v : AVal} (h : quiet t H (.nilCheck ax) = some v) : ∃ u, (execOp a.eval o).run P w = .ok (.value u) w ∧ VRel φ v u := by
  simp only [quiet] at h
  have hxv := opnd_ok hH ht hx
  split at h
  · rename_i b off hb
    cases h
    rw [hb] at hxv
    obtain ⟨y, hy, e⟩ := hxv
    exact ⟨_, by simp [execOp, ho, e], y, hy, rfl⟩
  · rename_i f p c hb
    cases h
    rw [hb] at hxv
    obtain ⟨p', c', e, h1, h2⟩ := hxv
    exact ⟨_, by simp [execOp, ho, e], p', c', rfl, h1, h2⟩
  · rename_i l hb
    cases h
    rw [hb] at hxv
    obtain ⟨y, hy, e⟩ := hxv
    exact ⟨_, by simp [execOp, ho, e], y, hy, rfl⟩
  · cases h
end
end Go.Am
end

section
namespace Go.Am
open Go Go.RowKit

/-- Of the structs that are held against each other nothing is stood in. -/
structure TOk2 (T : Tys) (P : Program) : Prop extends TOk T P where
  cmp : ∀ t, T.cmps.contains t = true → P.stoodInHeld t = false
  zero : ∀ t i v, T.get t = some i → i.zero = some v → v.cells.size = i.size

section
variable {P : Program} {T : Tys} {B : Nat} {φ : Emb} {H : AHeap} {w : World} {nt : Nat} {t : PT AVal} {a : Act}

/-! Strings. -/
def strV (s : List Nat) : ByteArray := ⟨(s.map UInt8.ofNat).toArray⟩
theorem ofNat_inj {a b : Nat} (ha : a < 256) (hb : b < 256) (h : UInt8.ofNat a = UInt8.ofNat b) : a = b := by
  have := congrArg UInt8.toNat h
  simp at this
  omega
theorem strEq_iff : ∀ {s r : List Nat}, (∀ x ∈ s, x < 256) → (∀ x ∈ r, x < 256) → strEq s r = (s.map UInt8.ofNat == r.map UInt8.ofNat)
  | [], [], _, _ => rfl
  | [], b :: r, _, _ => rfl
  | a :: s, [], _, _ => rfl
  | a :: s, b :: r, hs, hr => by
    have ih := strEq_iff (s := s) (r := r) (fun x h => hs x (List.mem_cons_of_mem _ h)) (fun x h => hr x (List.mem_cons_of_mem _ h))
    simp only [strEq, List.map_cons]
    have key : Nat.beq a b = (UInt8.ofNat a == UInt8.ofNat b) := by
      rw [Bool.eq_iff_iff]
      constructor
      · intro h; rw [Nat.eq_of_beq_eq_true h]; simp
      · intro h
        have := ofNat_inj (hs a (by simp)) (hr b (by simp)) (by simpa using h)
        rw [this]; exact Nat.beq_refl b
    rw [key, ih]
    show _ = (UInt8.ofNat a == UInt8.ofNat b && (s.map UInt8.ofNat == r.map UInt8.ofNat))
    cases (UInt8.ofNat a == UInt8.ofNat b) <;> rfl
theorem strLt_iff : ∀ {s r : List Nat}, (∀ x ∈ s, x < 256) → (∀ x ∈ r, x < 256) → strLt s r = Op.bytesLess (s.map UInt8.ofNat) (r.map UInt8.ofNat)
  | [], [], _, _ => rfl
  | a :: s, [], _, _ => rfl
  | [], b :: r, _, _ => rfl
  | a :: s, b :: r, hs, hr => by
    have ih := strLt_iff (s := s) (r := r) (fun x h => hs x (List.mem_cons_of_mem _ h)) (fun x h => hr x (List.mem_cons_of_mem _ h))
    have ha := hs a (by simp)
    have hb := hr b (by simp)
    simp only [strLt, List.map_cons, Op.bytesLess]
    have k1 : Nat.blt a b = decide (UInt8.ofNat a < UInt8.ofNat b) := by
      rw [Bool.eq_iff_iff]
      simp [UInt8.lt_iff_toNat_lt]
      rw [Nat.mod_eq_of_lt ha, Nat.mod_eq_of_lt hb]
    have k2 : Nat.beq a b = (UInt8.ofNat a == UInt8.ofNat b) := by
      rw [Bool.eq_iff_iff]
      constructor
      · intro h; rw [Nat.eq_of_beq_eq_true h]; simp
      · intro h
        have := ofNat_inj ha hb (by simpa using h)
        rw [this]; exact Nat.beq_refl b
    rw [k1, k2, ih]
    cases decide (UInt8.ofNat a < UInt8.ofNat b) <;> cases (UInt8.ofNat a == UInt8.ofNat b) <;> rfl
theorem strV_toList (s : List Nat) : (strV s).toList = s.map UInt8.ofNat := by
  rw [ByteArray.toList_eq]
  rfl
theorem strV_size (s : List Nat) : (strV s).size = s.length := by
  show ((s.map UInt8.ofNat).toArray).size = _
  simp
theorem VRel.str_inv {s : List Nat} {v : Value} (h : VRel φ (.str s) v) : v = .string (strV s) ∧ ∀ x ∈ s, x < 256 := h

theorem strBin_ok {op : BinOp} {s r : List Nat} {ty : TypeId} {v : AVal} (hs : ∀ x ∈ s, x < 256) (hr : ∀ x ∈ r, x < 256) (h : strBin op s r = some v) :
    ∃ u, (binOp op ty (.string (strV s)) (.string (strV r))).run P w = .ok u w ∧ VRel φ v u := by
  have e1 := strEq_iff hs hr
  have e2 := strLt_iff hs hr
  cases op <;> simp only [strBin] at h
  case add =>
    split at h
    · rename_i hle
      cases h
      have hle' : s.length + r.length ≤ 9223372036854775807 := Nat.le_of_ble_eq_true hle
      refine ⟨.string (strV (s ++ r)), ?_, rfl, ?_⟩
      · simp only [binOp, Op.stringOp]
        rw [if_neg (by rw [strV_size, strV_size]; simp [IntKind.max, IntKind.signed, IntKind.bits]; omega)]
        simp only [Sem.run_pure]
        congr 2
        apply ByteArray.ext
        show _ = ((s ++ r).map UInt8.ofNat).toArray
        simp [strV]
      · intro x hx
        rcases List.mem_append.1 hx with h | h
        · exact hs x h
        · exact hr x h
    · cases h
  all_goals first | (cases h; done) | skip
  case eql => cases h; exact ⟨_, by simp [binOp, Op.stringOp, strV_toList, ← e1], rfl⟩
  case neq => cases h; exact ⟨_, by simp [binOp, Op.stringOp, strV_toList, ← e1], rfl⟩
  case lss => cases h; exact ⟨_, by simp [binOp, Op.stringOp, strV_toList, ← e2], rfl⟩
  case leq => cases h; exact ⟨_, by simp only [binOp, Op.stringOp, strV_toList, ← e2, ← e1]; rfl, rfl⟩
  case gtr => cases h; exact ⟨_, by simp only [binOp, Op.stringOp, strV_toList, ← e2, ← e1]; rfl, rfl⟩
  case geq => cases h; exact ⟨_, by simp [binOp, Op.stringOp, strV_toList, ← e2], rfl⟩

theorem binOpA_ok {op : BinOp} {x y v : AVal} {ux uy : Value} {ty : TypeId} (hx : VRel φ x ux) (hy : VRel φ y uy) (h : binOpA op x y = some v) :
    ∃ u, (binOp op ty ux uy).run P w = .ok u w ∧ VRel φ v u := by
  unfold binOpA at h
  split at h
  · rw [VRel.int_inv hx, VRel.int_inv hy]; exact shift_ok (.inl rfl) h
  · rw [VRel.int_inv hx, VRel.int_inv hy]; exact shift_ok (.inr rfl) h
  · split at h
    · rename_i hk
      rw [VRel.int_inv hx, VRel.int_inv hy, ← kbeq_eq.1 hk]; exact intBin_ok h
    · cases h
  · obtain ⟨rfl, h1⟩ := VRel.str_inv hx
    obtain ⟨rfl, h2⟩ := VRel.str_inv hy
    exact strBin_ok h1 h2 h
  · cases h

theorem eqGuard_scal {op : BinOp} {ty : TypeId} {x y : Operand} {u v : Value} (h1 : u ≠ .nilIface) (h2 : ∀ l, u ≠ .agg l) : (eqGuard op ty x y u v).run P w = .ok () w := by
  cases op <;> first
    | rfl
    | (cases u <;> first | (exact absurd rfl h1) | (exact absurd rfl (h2 _)) | rfl)

theorem quiet_bin (hH : HRel T B φ H w) (ht : TRel φ nt t a.tmps) {o : Oper} {op : BinOp} {ty ty2 : TypeId} {x y : Operand} (ho : o.op = .binOp op ty x y ty2) {ax ay : AOpnd} (hx : opnd T x = some ax) (hy : opnd T y = some ay)
    {v : AVal} (h : quiet t H (.bin op ax ay) = some v) : ∃ u, (execOp a.eval o).run P w = .ok (.value u) w ∧ VRel φ v u := by
  simp only [quiet] at h
  have hxv := opnd_ok hH ht hx
  have hyv := opnd_ok hH ht hy
  obtain ⟨u, h1, h2⟩ := binOpA_ok (P := P) (w := w) (ty := ty) hxv hyv h
  have hg : (eqGuard op ty x y (a.eval x) (a.eval y)).run P w = .ok () w := by
    unfold binOpA at h
    split at h
    · rename_i e1 e2; rw [e1] at hxv; rw [VRel.int_inv hxv]; exact eqGuard_scal (by simp) (by simp)
    · rename_i e1 e2; rw [e1] at hxv; rw [VRel.int_inv hxv]; exact eqGuard_scal (by simp) (by simp)
    · rename_i e1 e2; rw [e1] at hxv; rw [VRel.int_inv hxv]; exact eqGuard_scal (by simp) (by simp)
    · rename_i e1 e2; rw [e1] at hxv; rw [(VRel.str_inv hxv).1]; exact eqGuard_scal (by simp) (by simp)
    · cases h
  exact ⟨u, by simp [execOp, ho, hg, h1], h2⟩
end
end Go.Am
end

section
namespace Go.Am
open Go Go.RowKit

section
variable {P : Program} {T : Tys} {B : Nat} {φ : Emb} {H : AHeap} {w : World} {nt : Nat} {t : PT AVal} {a : Act}

theorem quiet_un (hH : HRel T B φ H w) (ht : TRel φ nt t a.tmps) {o : Oper} {op : UnOp} {ty : TypeId} {x : Operand} (ho : o.op = .unOp op ty x) {ax : AOpnd} (hx : opnd T x = some ax)
    {v : AVal} (h : quiet t H (.un op ax) = some v) : ∃ u, (execOp a.eval o).run P w = .ok (.value u) w ∧ VRel φ v u := by
  simp only [quiet] at h
  have hxv := opnd_ok hH ht hx
  split at h
  · rename_i b e
    cases h
    rw [e] at hxv
    exact ⟨_, by simp [execOp, ho, VRel.bool_inv hxv, Op.unary], rfl⟩
  · rename_i k n e
    cases h
    rw [e] at hxv
    refine ⟨_, by simp [execOp, ho, VRel.int_inv hxv, Op.unary, Op.intArith]; rfl, ?_⟩
    simp [VRel, wrapI_eq, subI_eq]
  · rename_i k n e
    rw [e] at hxv
    have hm : allOnes k = (if k.signed then -1 else k.max) := by
      cases k <;> rfl
    rw [hm] at h
    obtain ⟨u, h1, h2⟩ := intBin_ok (P := P) (w := w) (φ := φ) (ty := 0) h
    refine ⟨u, ?_, h2⟩
    have h3 : (Op.unary .xor (.int k n)).run P w = .ok u w := by
      simpa [Op.unary, binOp] using h1
    simp only [execOp, ho, VRel.int_inv hxv, Sem.run_bind, h3, Result.andThen_ok, Sem.run_pure]
  · cases h

theorem quiet_fieldAddr (hT : TOk T P) (hH : HRel T B φ H w) (ht : TRel φ nt t a.tmps) {o : Oper} {s : TypeId} {x : Operand} {f : Nat} (ho : o.op = .fieldAddr s x f) {ax : AOpnd} (hx : opnd T x = some ax)
    {fs : Array Field} {fd : Field} {n : Nat} (hs : T.und s = some (.struct fs)) (hf : fs[f]? = some fd) (hn : T.size fd.type = some (n + 1))
    {v : AVal} (h : quiet t H (.fieldAddr fd.offset ax) = some v) : ∃ u, (execOp a.eval o).run P w = .ok (.value u) w ∧ VRel φ v u := by
  simp only [quiet] at h
  have hxv := opnd_ok hH ht hx
  split at h
  · rename_i b off e
    cases h
    rw [e] at hxv
    obtain ⟨y, hy, e2⟩ := hxv
    refine ⟨.pointer (some ⟨y.c, y.s + (off + fd.offset), none⟩), ?_, y, hy, rfl⟩
    simp [execOp, ho, Instr.fieldAt, hT.run_und hs, hf, e2, Instr.sureAddr, fieldPlace, hT.run_size hn, addr_add, Nat.add_assoc]
  · cases h

theorem quiet_idxS (hT : TOk T P) (hH : HRel T B φ H w) (ht : TRel φ nt t a.tmps) {o : Oper} {ty e : TypeId} {x i : Operand} (ho : o.op = .indexAddr ty x i) {ax ai : AOpnd} (hx : opnd T x = some ax) (hi : opnd T i = some ai)
    {sz : Nat} (hs : T.und ty = some (.slice e)) (hn : T.size e = some sz)
    {v : AVal} (h : quiet t H (.idxS sz ax ai) = some v) : ∃ u, (execOp a.eval o).run P w = .ok (.value u) w ∧ VRel φ v u := by
  simp only [quiet] at h
  have hxv := opnd_ok hH ht hx
  have hiv := opnd_ok hH ht hi
  split at h
  · rename_i b off len cap z n e1 e2
    split at h
    · rename_i hlt
      cases h
      have hlt' : n < len := by simpa using hlt
      rw [e1] at hxv
      obtain ⟨y, ad, cap', hy, e3, hc1, hc2, hc3⟩ := hxv
      obtain ⟨k, e4⟩ := natOf_ok e2 hiv
      have had : ad = ⟨y.c, y.s + off, none⟩ := by
        rcases hc3 with ⟨_, _, h | h⟩ | ⟨_, h, _⟩ | ⟨_, h⟩
        · exact h
        · omega
        · exact h
        · omega
      refine ⟨.pointer (some ⟨y.c, y.s + (off + n * sz), none⟩), ?_, y, hy, rfl⟩
      have hnn : (0 : Int) ≤ n ∧ (n : Int) < len := ⟨by omega, by omega⟩
      simp [execOp, ho, Instr.indexAt, asIntOf, e4, hT.run_und hs, e3, hT.run_size hn, hlt', had, addr_add, Nat.add_assoc]
    · cases h
  · cases h

theorem quiet_idxA (hT : TOk T P) (hH : HRel T B φ H w) (ht : TRel φ nt t a.tmps) {o : Oper} {ty e : TypeId} {x i : Operand} (ho : o.op = .indexAddr ty x i) {ax ai : AOpnd} (hx : opnd T x = some ax) (hi : opnd T i = some ai)
    {sz len : Nat} (hs : T.und ty = some (.array len e)) (hn : T.size e = some sz)
    {v : AVal} (h : quiet t H (.idxA len sz ax ai) = some v) : ∃ u, (execOp a.eval o).run P w = .ok (.value u) w ∧ VRel φ v u := by
  simp only [quiet] at h
  have hxv := opnd_ok hH ht hx
  have hiv := opnd_ok hH ht hi
  split at h
  · rename_i b off n e1 e2
    split at h
    · rename_i hlt
      cases h
      have hlt' : n < len := by simpa using hlt
      rw [e1] at hxv
      obtain ⟨y, hy, e3⟩ := hxv
      obtain ⟨k, e4⟩ := natOf_ok e2 hiv
      refine ⟨.pointer (some ⟨y.c, y.s + (off + n * sz), none⟩), ?_, y, hy, rfl⟩
      simp [execOp, ho, Instr.indexAt, asIntOf, e4, hT.run_und hs, e3, Instr.sureAddr, hT.run_size hn, hlt', addr_add, Nat.add_assoc]
    · cases h
  · cases h

theorem quiet_field1 (hT : TOk T P) (hH : HRel T B φ H w) (ht : TRel φ nt t a.tmps) {o : Oper} {s : TypeId} {x : Operand} {f : Nat} (ho : o.op = .field s x f) {ax : AOpnd} (hx : opnd T x = some ax)
    {fs : Array Field} {fd : Field} (hs : T.und s = some (.struct fs)) (hf : fs[f]? = some fd) (hg : T.isAgg fd.type = some false)
    {v : AVal} (h : quiet t H (.field1 fd.offset ax) = some v) : ∃ u, (execOp a.eval o).run P w = .ok (.value u) w ∧ VRel φ v u := by
  simp only [quiet] at h
  have hxv := opnd_ok hH ht hx
  split at h
  · rename_i l e
    rw [e] at hxv
    obtain ⟨vs, e2, hl⟩ := hxv
    rw [lget_eq] at h
    obtain ⟨u, hu, hv⟩ := hl.get h
    have hu' : vs[fd.offset]? = some u := by simpa using hu
    exact ⟨u, by simp [execOp, ho, Instr.field, hT.run_und hs, hf, e2, asAgg, part, hT.run_isAgg hg, hu'], hv⟩
  · cases h
theorem quiet_fieldN (hT : TOk T P) (hH : HRel T B φ H w) (ht : TRel φ nt t a.tmps) {o : Oper} {s : TypeId} {x : Operand} {f : Nat} (ho : o.op = .field s x f) {ax : AOpnd} (hx : opnd T x = some ax)
    {fs : Array Field} {fd : Field} {n : Nat} (hs : T.und s = some (.struct fs)) (hf : fs[f]? = some fd) (hg : T.isAgg fd.type = some true) (hn : T.size fd.type = some n)
    {v : AVal} (h : quiet t H (.fieldN fd.offset n ax) = some v) : ∃ u, (execOp a.eval o).run P w = .ok (.value u) w ∧ VRel φ v u := by
  simp only [quiet] at h
  have hxv := opnd_ok hH ht hx
  split at h
  · rename_i l e
    rw [e] at hxv
    obtain ⟨vs, e2, hl⟩ := hxv
    split at h
    · rename_i l' hl'
      cases h
      obtain ⟨e3, e4⟩ := lsub_eq hl'
      refine ⟨.agg (vs.extract fd.offset (fd.offset + n)), by simp [execOp, ho, Instr.field, hT.run_und hs, hf, e2, asAgg, part, hT.run_isAgg hg, hT.run_size hn], _, rfl, ?_⟩
      rw [e3]
      have := (hl.drop fd.offset).take n
      simpa [Array.toList_extract, List.extract_eq_take_drop] using this
    · cases h
  · cases h

theorem quiet_idxStr (hT : TOk T P) (hH : HRel T B φ H w) (ht : TRel φ nt t a.tmps) {o : Oper} {ty : TypeId} {x i : Operand} (ho : o.op = .index ty x i) {ax ai : AOpnd} (hx : opnd T x = some ax) (hi : opnd T i = some ai)
    (hs : T.und ty = some .string) {v : AVal} (h : quiet t H (.idxStr ax ai) = some v) : ∃ u, (execOp a.eval o).run P w = .ok (.value u) w ∧ VRel φ v u := by
  simp only [quiet] at h
  have hxv := opnd_ok hH ht hx
  have hiv := opnd_ok hH ht hi
  split at h
  · rename_i s n e1 e2
    split at h
    · rename_i c r hd
      cases h
      rw [e1] at hxv
      obtain ⟨e3, hlt⟩ := VRel.str_inv hxv
      obtain ⟨k, e4⟩ := natOf_ok e2 hiv
      have hget : s[n]? = some c := by
        have := congrArg List.head? hd
        simpa using this
      have hc : c < 256 := hlt c (List.mem_of_getElem? hget)
      have hidx : (strV s)[n]? = some (UInt8.ofNat c) := by
        have hn : n < s.length := by
          rcases Nat.lt_or_ge n s.length with h | h
          · exact h
          · rw [List.getElem?_eq_none h] at hget; cases hget
        have hsz : n < (strV s).size := by rw [strV_size]; exact hn
        rw [getElem?_pos (strV s) n hsz]
        congr 1
        show ((s.map UInt8.ofNat).toArray)[n]'(by simpa using hn) = _
        simp
        rw [List.getElem?_eq_getElem hn] at hget
        cases hget
        rfl
      refine ⟨.int .u8 c, ?_, rfl⟩
      have : (UInt8.ofNat c).toNat = c := by simp; omega
      simp [execOp, ho, Instr.index, asIntOf, e4, hT.run_und hs, e3, hidx]
      omega
    · cases h
  · cases h

theorem quiet_idxArr (hT : TOk T P) (hH : HRel T B φ H w) (ht : TRel φ nt t a.tmps) {o : Oper} {ty e : TypeId} {x i : Operand} (ho : o.op = .index ty x i) {ax ai : AOpnd} (hx : opnd T x = some ax) (hi : opnd T i = some ai)
    {len : Nat} (hs : T.und ty = some (.array len e)) (hg : T.isAgg e = some false) (hn : T.size e = some 1) {v : AVal} (h : quiet t H (.idxArr len ax ai) = some v) : ∃ u, (execOp a.eval o).run P w = .ok (.value u) w ∧ VRel φ v u := by
  simp only [quiet] at h
  have hxv := opnd_ok hH ht hx
  have hiv := opnd_ok hH ht hi
  split at h
  · rename_i l n e1 e2
    split at h
    · rename_i hlt
      have hlt' : n < len := by simpa using hlt
      rw [e1] at hxv
      obtain ⟨vs, e3, hl⟩ := hxv
      obtain ⟨k, e4⟩ := natOf_ok e2 hiv
      rw [lget_eq] at h
      obtain ⟨u, hu, hv⟩ := hl.get h
      have hu' : vs[n]? = some u := by simpa using hu
      exact ⟨u, by simp [execOp, ho, Instr.index, asIntOf, e4, hT.run_und hs, e3, hlt', hT.run_size hn, part, hT.run_isAgg hg, hu'], hv⟩
    · cases h
  · cases h

theorem quiet_s2ap (hT : TOk T P) (hH : HRel T B φ H w) (ht : TRel φ nt t a.tmps) {o : Oper} {ty e : TypeId} {x : Operand} (ho : o.op = .sliceToArrayPointer ty x) {ax : AOpnd} (hx : opnd T x = some ax)
    {n : Nat} (hs : T.und ty = some (.array n e)) (hn : n ≠ 0) {v : AVal} (h : quiet t H (.s2ap n ax) = some v) : ∃ u, (execOp a.eval o).run P w = .ok (.value u) w ∧ VRel φ v u := by
  simp only [quiet] at h
  have hxv := opnd_ok hH ht hx
  split at h
  · rename_i b off len cap z e1
    split at h
    · rename_i hle
      cases h
      have hle' : n ≤ len := Nat.le_of_ble_eq_true hle
      rw [e1] at hxv
      obtain ⟨y, ad, cap', hy, e3, hc1, hc2, hc3⟩ := hxv
      have had : ad = ⟨y.c, y.s + off, none⟩ := by
        rcases hc3 with ⟨_, _, h | h⟩ | ⟨_, h, _⟩ | ⟨_, h⟩
        · exact h
        · omega
        · exact h
        · omega
      refine ⟨.pointer (some ⟨y.c, y.s + off, none⟩), ?_, y, hy, rfl⟩
      simp [execOp, ho, Instr.arrayAt, hT.run_und hs, e3, had]
      omega
    · cases h
  · cases h
theorem quiet_mkI (hT : TOk T P) (hH : HRel T B φ H w) (ht : TRel φ nt t a.tmps) {o : Oper} {ty : TypeId} {x : Operand} (ho : o.op = .makeInterface ty x) {ax : AOpnd} (hx : opnd T x = some ax)
    {d : TypeDesc} (hs : T.und ty = some d) (hd : ∀ ms, d ≠ .interface ms) : ∃ u, (execOp a.eval o).run P w = .ok (.value u) w ∧ VRel φ (.iface ty (ax.ev t)) u := by
  refine ⟨.iface ty (a.eval x), ?_, _, rfl, opnd_ok hH ht hx⟩
  simp only [execOp, ho, Instr.makeInterface, Sem.run_bind, hT.run_und hs, Result.andThen_ok]
  cases d <;> first | rfl | exact absurd rfl (hd _)
theorem quiet_mkF (hH : HRel T B φ H w) (ht : TRel φ nt t a.tmps) {o : Oper} {f : FuncId} {p c : Array Operand} (ho : o.op = .makeFunc (.func f) p c) {ap ac : List AOpnd} (hp : opnds T p.toList = some ap) (hc : opnds T c.toList = some ac) :
    ∃ u, (execOp a.eval o).run P w = .ok (.value u) w ∧ VRel φ (.func f (evs t ap) (evs t ac)) u := by
  refine ⟨.func (.func f) (p.map a.eval) (c.map a.eval), by simp [execOp, ho, Instr.makeFunc], _, _, rfl, ?_, ?_⟩
  · simpa using opnds_ok hH ht hp
  · simpa using opnds_ok hH ht hc
theorem quiet_extract (hH : HRel T B φ H w) (ht : TRel φ nt t a.tmps) {o : Oper} {x : Operand} {i : Nat} (ho : o.op = .extract x i) {ax : AOpnd} (hx : opnd T x = some ax)
    {v : AVal} (h : quiet t H (.extract ax i) = some v) : ∃ u, (execOp a.eval o).run P w = .ok (.value u) w ∧ VRel φ v u := by
  simp only [quiet] at h
  have hxv := opnd_ok hH ht hx
  split at h
  · rename_i l e
    rw [e] at hxv
    obtain ⟨vs, e2, hl⟩ := hxv
    rw [lget_eq] at h
    obtain ⟨u, hu, hv⟩ := hl.get h
    have hu' : vs[i]? = some u := by simpa using hu
    exact ⟨u, by simp [execOp, ho, Instr.extract, e2, hu'], hv⟩
  · cases h
end
end Go.Am
end
