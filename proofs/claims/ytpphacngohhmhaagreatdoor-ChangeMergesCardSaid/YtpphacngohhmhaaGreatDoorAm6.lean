/- Part of the proof: AmQuiet7, AmQuiet8. -/
import Derived.Test.YtpphacngohhmhaaGreatDoorAm5
set_option linter.unusedSimpArgs false
set_option linter.unusedVariables false
section
namespace Go.Am
open Go Go.RowKit

section
variable {P : Program} {T : Tys} {B : Nat} {φ : Emb} {H : AHeap} {w : World} {nt : Nat} {t : PT AVal} {a : Act}

/-- A type whose values are of that kind. -/
def kindOk (T : Tys) (ty : TypeId) : EqK → Prop
  | .bool => T.und ty = some .bool
  | .int => ∃ k, T.und ty = some (.int k)
  | .str => T.und ty = some .string
  | .ptr => ∃ e n, T.und ty = some (.pointer e) ∧ T.size e = some (n + 1)
  | .sl => ∃ e, T.und ty = some (.slice e)
  | .map => ∃ k e, T.und ty = some (.map k e)
  | .func => ∃ p r v, T.und ty = some (.func p r v)
  | .iface => ∃ m, T.und ty = some (.interface m)
  | .pair => False

theorem live_ok (hH : HRel T B φ H w) {b : Pos} {x : Place} (hx : φ b = some x) (h : live H b = true) :
    PT.get b H.t ≠ none ∧ (∃ arr e lo hi, w.heap[x.c]? = some (.cells arr e (lo, hi)) ∧ hi ≤ lo) := by
  unfold live at h
  split at h
  · rename_i l hb
    obtain ⟨arr, e, lo, hi, h1, h2, h3, h4, h5, h6, h7⟩ := hH.obj b _ x hb hx
    exact ⟨by rw [hb]; simp, arr, e, lo, hi, h1, (h6 rfl rfl).1⟩
  · cases h
theorem run_sameAddr {x y : Addr} (hne : x.block ≠ y.block) (h1 : ∃ arr e lo hi, w.heap[x.block]? = some (.cells arr e (lo, hi)) ∧ hi ≤ lo) (h2 : ∃ arr e lo hi, w.heap[y.block]? = some (.cells arr e (lo, hi)) ∧ hi ≤ lo) :
    (sameAddr x y).run P w = .ok false w := by
  obtain ⟨arr, e, lo, hi, g1, g2⟩ := h1
  obtain ⟨arr', e', lo', hi', g3, g4⟩ := h2
  have f1 : ∀ o s, w.frozen? ⟨x.block, o, s⟩ = false := by
    intro o s; simp only [World.frozen?, g1]; simp; omega
  have f2 : ∀ o s, w.frozen? ⟨y.block, o, s⟩ = false := by
    intro o s; simp only [World.frozen?, g3]; simp; omega
  have f1' : w.frozen? x = false := f1 x.off x.spot
  have f2' : w.frozen? y = false := f2 y.off y.spot
  have s1 : w.shape? x.block = some (e, arr.size) := by simp [World.shape?, g1]
  have s2 : w.shape? y.block = some (e', arr'.size) := by simp [World.shape?, g3]
  have hb : (x.block == y.block) = false := by simpa using hne
  simp [sameAddr, hb, f1', noView, viewAt, s1, s2, mayBeOne, stringish, f2', f1, f2]

theorem eqS_ok (hT : TOk T P) (hH : HRel T B φ H w) {q : EqK} {x y : AVal} {u v : Value} (hx : VRel φ x u) (hy : VRel φ y v) {ty : TypeId} (hk : kindOk T ty q) {r : Bool} (h : eqS H q x y = some r) (d : Nat) :
    (Op.equalIn (d + 1) ty u v).run P w = .ok r w := by
  cases q with
  | pair => cases hk
  | bool =>
    simp only [eqS] at h
    split at h
    · cases h
      rw [VRel.bool_inv hx, VRel.bool_inv hy]
      exact run_equalIn_bool w d ty _ _ (hT.und hk)
    · cases h
  | int =>
    simp only [eqS] at h
    split at h
    · split at h
      · rename_i e
        cases h
        obtain ⟨k, hk⟩ := hk
        rw [VRel.int_inv hx, VRel.int_inv hy, ← kbeq_eq.1 e, eqI_eq]
        exact run_equalIn_int w d ty _ _ _ _ (hT.und hk)
      · cases h
    · cases h
  | str =>
    simp only [eqS] at h
    split at h
    · cases h
      obtain ⟨e1, h1⟩ := VRel.str_inv hx
      obtain ⟨e2, h2⟩ := VRel.str_inv hy
      rw [e1, e2, run_equalIn_string w d ty _ _ (hT.und hk), strEq_iff h1 h2, strV_toList, strV_toList]
    · cases h
  | ptr =>
    obtain ⟨e, n, h1, h2⟩ := hk
    have hu := hT.run_und h1 w
    simp only [eqS] at h
    split at h
    · cases h
      have e1 : u = .pointer none := hx
      have e2 : v = .pointer none := hy
      subst e1; subst e2
      simp [Op.equalIn, hu]
    · cases h
      have e1 : u = .pointer none := hx
      obtain ⟨z, hz, e2⟩ := hy
      subst e1; subst e2
      simp [Op.equalIn, hu]
    · cases h
      have e2 : v = .pointer none := hy
      obtain ⟨z, hz, e1⟩ := hx
      subst e1; subst e2
      simp [Op.equalIn, hu]
    · rename_i b o b' o'
      obtain ⟨z, hz, e1⟩ := hx
      obtain ⟨z', hz', e2⟩ := hy
      subst e1; subst e2
      have hsz := hT.run_size h2 w
      split at h
      · rename_i hb
        have := Pos.beq_eq.1 hb
        subst this
        rw [hz] at hz'
        cases hz'
        cases h
        have : (sameAddr ⟨z.c, z.s + o, none⟩ ⟨z.c, z.s + o', none⟩).run P w = .ok (Nat.beq o o') w := by
          have e3 : ((⟨z.c, z.s + o, none⟩ : Addr) == ⟨z.c, z.s + o', none⟩) = Nat.beq o o' := by
            rw [Bool.eq_iff_iff]
            simp
          simp [sameAddr, e3]
        simp [Op.equalIn, hu, hsz, this]
      · rename_i hb
        have hne := Pos.beq_ne hb
        split at h
        · rename_i l1 l2
          cases h
          obtain ⟨g1, g2⟩ := live_ok hH hz l1
          obtain ⟨g3, g4⟩ := live_ok hH hz' l2
          have hc := hH.inj b b' z z' hne g1 g3 hz hz'
          have := run_sameAddr (P := P) (x := ⟨z.c, z.s + o, none⟩) (y := ⟨z'.c, z'.s + o', none⟩) hc g2 g4
          simp [Op.equalIn, hu, hsz, this]
        · cases h
    · cases h
  | sl =>
    obtain ⟨e, h1⟩ := hk
    have hu := hT.run_und h1 w
    simp only [eqS] at h
    split at h
    · cases h
      have e1 : u = .slice none 0 0 := hx
      have e2 : v = .slice none 0 0 := hy
      subst e1; subst e2
      simp [Op.equalIn, hu]
    · cases h
      have e1 : u = .slice none 0 0 := hx
      obtain ⟨z, ad, c, hz, e2, _⟩ := hy
      subst e1; subst e2
      simp [Op.equalIn, hu]
    · cases h
      have e2 : v = .slice none 0 0 := hy
      obtain ⟨z, ad, c, hz, e1, _⟩ := hx
      subst e1; subst e2
      simp [Op.equalIn, hu]
    · cases h
  | map =>
    obtain ⟨k, e, h1⟩ := hk
    have hu := hT.run_und h1 w
    simp only [eqS] at h
    split at h
    · cases h
      have e1 : u = .map none := hx
      have e2 : v = .map none := hy
      subst e1; subst e2
      simp [Op.equalIn, hu]
    · cases h
      have e1 : u = .map none := hx
      obtain ⟨z, hz, e2⟩ := hy
      subst e1; subst e2
      simp [Op.equalIn, hu]
    · cases h
      have e2 : v = .map none := hy
      obtain ⟨z, hz, e1⟩ := hx
      subst e1; subst e2
      simp [Op.equalIn, hu]
    · cases h
  | func =>
    obtain ⟨p, r', vv, h1⟩ := hk
    have hu := hT.run_und h1 w
    simp only [eqS] at h
    split at h
    · cases h
      have e1 : u = .nilFunc := hx
      have e2 : v = .nilFunc := hy
      subst e1; subst e2
      simp [Op.equalIn, hu]
    · cases h
      have e1 : u = .nilFunc := hx
      obtain ⟨z, z', e2, _⟩ := hy
      subst e1; subst e2
      simp [Op.equalIn, hu]
    · cases h
      have e2 : v = .nilFunc := hy
      obtain ⟨z, z', e1, _⟩ := hx
      subst e1; subst e2
      simp [Op.equalIn, hu]
    · cases h
  | iface =>
    obtain ⟨m, h1⟩ := hk
    have hu := hT.run_und h1 w
    simp only [eqS] at h
    split at h
    · cases h
      have e1 : u = .nilIface := hx
      have e2 : v = .nilIface := hy
      subst e1; subst e2
      simp [Op.equalIn, hu]
    · cases h
      have e1 : u = .nilIface := hx
      obtain ⟨z, e2, _⟩ := hy
      subst e1; subst e2
      simp [Op.equalIn, hu]
    · cases h
      have e2 : v = .nilIface := hy
      obtain ⟨z, e1, _⟩ := hx
      subst e1; subst e2
      simp [Op.equalIn, hu]
    · cases h
end
end Go.Am
end

section
namespace Go.Am
open Go Go.RowKit

section
variable {P : Program} {T : Tys} {B : Nat} {φ : Emb} {H : AHeap} {w : World} {nt : Nat} {t : PT AVal} {a : Act}

theorem eqGuard_nil {op : BinOp} {ty : TypeId} {x y : Operand} (h : (isConstO x || isConstO y) = true) : (eqGuard op ty x y .nilIface .nilIface).run P w = .ok () w := by
  cases op <;> first
    | rfl
    | (cases x <;> first
        | rfl
        | (cases y <;> first
            | rfl
            | (simp [isConstO] at h)))
theorem eqGuard_other {op : BinOp} {ty : TypeId} {x y : Operand} {u v : Value} (h1 : v ≠ .nilIface) (h2 : ∀ l, u ≠ .agg l) : (eqGuard op ty x y u v).run P w = .ok () w := by
  cases op <;> first
    | rfl
    | (cases u <;> first
        | (exact absurd rfl (h2 _))
        | (cases v <;> first | (exact absurd rfl h1) | rfl))
theorem eqGuard_agg {op : BinOp} {ty : TypeId} {x y : Operand} {l m : Array Value} (h : P.eqGuardType P.depth ty = false) : (eqGuard op ty x y (.agg l) (.agg m)).run P w = .ok () w := by
  cases op <;> first
    | rfl
    | (show Sem.run P (do
          if !(← program).eqGuardType (← program).depth ty then return
          if ← Op.eqGuardIn Op.maxDepth ty (.agg l) (.agg m) then unsupported (.noEntry "binop/eql: two nil values of an interface type with methods, in a part of a struct or an array") : Sem Unit) w = _
       simp [h])

theorem run_eql {ty : TypeId} {u v : Value} {r : Bool} (h : (Op.equal ty u v).run P w = .ok r w) (hi : ∀ k n, u ≠ .int k n) (hs : ∀ s, u ≠ .string s) (hf : ∀ k n, u ≠ .float k n) (hc : ∀ k n m, u ≠ .complex k n m) :
    (binOp .eql ty u v).run P w = .ok (.bool r) w ∧ (binOp .neq ty u v).run P w = .ok (.bool (!r)) w := by
  have h1 : binOp .eql ty u v = (do pure (.bool (← Op.equal ty u v)) : Sem Value) := by
    cases u <;> first
      | (exact absurd rfl (hi _ _))
      | (exact absurd rfl (hs _))
      | (exact absurd rfl (hf _ _))
      | (exact absurd rfl (hc _ _ _))
      | rfl
  have h2 : binOp .neq ty u v = (do pure (.bool (!(← Op.equal ty u v))) : Sem Value) := by
    cases u <;> first
      | (exact absurd rfl (hi _ _))
      | (exact absurd rfl (hs _))
      | (exact absurd rfl (hf _ _))
      | (exact absurd rfl (hc _ _ _))
      | rfl
  rw [h1, h2]
  simp [h]

/-- What the compiler asks of a comparison. -/
def eqOk (T : Tys) (ty : TypeId) (x y : Operand) : EqKs → Prop
  | .one q => kindOk T ty q ∧ (q ≠ .int ∧ q ≠ .str) ∧ (q = .iface → (isConstO x || isConstO y) = true)
  | .cells qs => (∃ fs, T.und ty = some (.struct fs) ∧ T.cmps.contains ty = true ∧ eqFields T fs.toList 0 = some qs) ∨
      (∃ n e q, T.und ty = some (.array n e) ∧ eqScal T e = some q ∧ T.isAgg e = some false ∧ T.size e = some 1 ∧ qs = List.replicate n q)

theorem eqType_ok {ty : TypeId} {x y : Operand} {k : EqKs} (h : eqType T ty x y = some k) : eqOk T ty x y k := by
  unfold eqType at h
  split at h
  · cases h; exact ⟨‹_›, by simp, by simp⟩
  · split at h
    · cases h; exact ⟨⟨_, _, ‹_›, ‹_›⟩, by simp, by simp⟩
    · cases h
  · cases h; exact ⟨⟨_, ‹_›⟩, by simp, by simp⟩
  · cases h; exact ⟨⟨_, _, ‹_›⟩, by simp, by simp⟩
  · cases h; exact ⟨⟨_, _, _, ‹_›⟩, by simp, by simp⟩
  · split at h
    · cases h; exact ⟨⟨_, ‹_›⟩, by simp, fun _ => ‹_›⟩
    · cases h
  · split at h
    · cases h; exact .inl ⟨_, ‹_›, ‹_›, ‹_›⟩
    · cases h
  · split at h
    · cases h; exact .inr ⟨_, _, _, ‹_›, ‹_›, ‹_›, ‹_›, rfl⟩
    · cases h
  · cases h
theorem eqScal_ok {ty : TypeId} {q : EqK} (h : eqScal T ty = some q) : kindOk T ty q := by
  unfold eqScal at h
  split at h
  · cases h; assumption
  · cases h; exact ⟨_, ‹_›⟩
  · cases h; assumption
  · cases h

theorem part_ok (hT : TOk T P) {ty : TypeId} (hg : T.isAgg ty = some false) {l : List AVal} {vs : Array Value} (hl : LRel φ l vs.toList) {i : Nat} {x : AVal} (hx : l[i]? = some x) :
    ∃ u, (part ty vs i).run P w = .ok u w ∧ VRel φ x u := by
  obtain ⟨u, hu, hv⟩ := hl.get hx
  have : vs[i]? = some u := by simpa using hu
  exact ⟨u, by simp [part, hT.run_isAgg hg, this], hv⟩

theorem eqFields_run (hT : TOk T P) (hH : HRel T B φ H w) {l m : List AVal} {us vs : Array Value} (hl : LRel φ l us.toList) (hm : LRel φ m vs.toList) (d : Nat) : ∀ {fs : List Field} {i : Nat} {qs : List EqK} {r : Bool},
    eqFields T fs i = some qs → eqL H qs (l.drop i) (m.drop i) = some r → (Op.eqFields (d + 1) us vs fs).run P w = .ok r w
  | [], i, qs, r, h, e => by
    simp [eqFields] at h
    subst h
    have : r = true := by
      generalize l.drop i = l' at e
      generalize m.drop i = m' at e
      cases l' <;> cases m' <;> simp [eqL] at e <;> exact e
    subst this
    rfl
  | f :: fs, i, qs, r, h, e => by
    simp only [eqFields] at h
    split at h
    · rename_i q m' hn ho hg hq hr
      cases h
      cases hl' : l.drop i with
      | nil => simp [hl', eqL] at e
      | cons x l' =>
        cases hm' : m.drop i with
        | nil => simp [hl', hm', eqL] at e
        | cons y m'' =>
          rw [hl', hm'] at e
          simp only [eqL] at e
          have hx : l[i]? = some x := by
            have := congrArg List.head? hl'
            simpa using this
          have hy : m[i]? = some y := by
            have := congrArg List.head? hm'
            simpa using this
          have hof : f.offset = i := Nat.eq_of_beq_eq_true ho
          obtain ⟨u, g1, g2⟩ := part_ok (P := P) (w := w) hT hg hl hx
          obtain ⟨v, g3, g4⟩ := part_ok (P := P) (w := w) hT hg hm hy
          have dl : l.drop (i + 1) = l' := by
            have := congrArg List.tail hl'
            simpa [List.tail_drop] using this
          have dm : m.drop (i + 1) = m'' := by
            have := congrArg List.tail hm'
            simpa [List.tail_drop] using this
          have hname : f.name ≠ "_" := by simpa using hn
          simp only [Op.eqFields, if_pos hname, Sem.run_bind, hof, g1, g3, Result.andThen_ok]
          split at e
          · rename_i he
            have hrec := eqFields_run hT hH hl hm d (fs := fs) (i := i + 1) hr (by rw [dl, dm]; exact e)
            simp [eqS_ok hT hH g2 g4 (eqScal_ok hq) he d, hrec]
          · rename_i he
            cases e
            simp [eqS_ok hT hH g2 g4 (eqScal_ok hq) he d]
          · cases e
    · cases h

theorem eqItems_run (hT : TOk T P) (hH : HRel T B φ H w) {l m : List AVal} {us vs : Array Value} (hl : LRel φ l us.toList) (hm : LRel φ m vs.toList) {ety : TypeId} {q : EqK} (hq : eqScal T ety = some q) (hg : T.isAgg ety = some false) (d : Nat) : ∀ {n i : Nat} {r : Bool},
    eqL H (List.replicate n q) (l.drop i) (m.drop i) = some r → (Op.eqItems (d + 1) ety 1 us vs (List.range' i n)).run P w = .ok r w
  | 0, i, r, e => by
    have : r = true := by
      simp only [List.replicate_zero] at e
      generalize l.drop i = l' at e
      generalize m.drop i = m' at e
      cases l' <;> cases m' <;> simp [eqL] at e <;> exact e
    subst this
    rfl
  | n + 1, i, r, e => by
    simp only [List.replicate_succ] at e
    cases hl' : l.drop i with
    | nil => simp [hl', eqL] at e
    | cons x l' =>
      cases hm' : m.drop i with
      | nil => simp [hl', hm', eqL] at e
      | cons y m'' =>
        rw [hl', hm'] at e
        simp only [eqL] at e
        have hx : l[i]? = some x := by
          have := congrArg List.head? hl'
          simpa using this
        have hy : m[i]? = some y := by
          have := congrArg List.head? hm'
          simpa using this
        obtain ⟨u, g1, g2⟩ := part_ok (P := P) (w := w) hT hg hl hx
        obtain ⟨v, g3, g4⟩ := part_ok (P := P) (w := w) hT hg hm hy
        have dl : l.drop (i + 1) = l' := by
          have := congrArg List.tail hl'
          simpa [List.tail_drop] using this
        have dm : m.drop (i + 1) = m'' := by
          have := congrArg List.tail hm'
          simpa [List.tail_drop] using this
        simp only [List.range'_succ, Op.eqItems, Sem.run_bind, Nat.mul_one, g1, g3, Result.andThen_ok]
        split at e
        · rename_i he
          have hrec := eqItems_run hT hH hl hm hq hg d (n := n) (i := i + 1) (by rw [dl, dm]; exact e)
          simp [eqS_ok hT hH g2 g4 (eqScal_ok hq) he d, hrec]
        · rename_i he
          cases e
          simp [eqS_ok hT hH g2 g4 (eqScal_ok hq) he d]
        · cases e

theorem eqGuardType_scal {ty : TypeId} {q : EqK} (hT : TOk T P) (h : eqScal T ty = some q) (d : Nat) : P.eqGuardType (d + 1) ty = false := by
  unfold eqScal at h
  split at h <;> first | (cases h; done) | (rename_i hu; simp [Program.eqGuardType, hT.und hu])
theorem eqFields_guard (hT : TOk T P) (d : Nat) : ∀ {fs : List Field} {i : Nat} {qs : List EqK}, eqFields T fs i = some qs → (fs.any fun (f : Field) => f.name != "_" && P.eqGuardType (d + 1) f.type) = false
  | [], _, _, _ => rfl
  | f :: fs, i, qs, h => by
    simp only [eqFields] at h
    split at h
    · rename_i q m' hn ho hg hq hr
      simp [eqGuardType_scal hT hq d]
      have := eqFields_guard hT d hr
      simpa using this
    · cases h

theorem quiet_eq (hT : TOk2 T P) (hH : HRel T B φ H w) (ht : TRel φ nt t a.tmps) {o : Oper} {neg : Bool} {ty ty2 : TypeId} {x y : Operand} (ho : o.op = .binOp (match neg with | true => .neq | false => .eql) ty x y ty2) {ax ay : AOpnd} (hx : opnd T x = some ax) (hy : opnd T y = some ay)
    {k : EqKs} (hk : eqOk T ty x y k) {v : AVal} (h : quiet t H (.eq neg k ax ay) = some v) : ∃ u, (execOp a.eval o).run P w = .ok (.value u) w ∧ VRel φ v u := by
  simp only [quiet] at h
  split at h
  · rename_i b hb
    cases h
    have hxv := opnd_ok hH ht hx
    have hyv := opnd_ok hH ht hy
    refine ⟨.bool (match neg with | true => !b | false => b), ?_, by cases neg <;> rfl⟩
    have hdep : P.depth = (P.depth - 2) + 1 + 1 := by unfold Program.depth; omega
    have main : (Op.equal ty (a.eval x) (a.eval y)).run P w = .ok b w ∧ (∀ op, (eqGuard op ty x y (a.eval x) (a.eval y)).run P w = .ok () w) ∧
        (∀ k n, a.eval x ≠ .int k n) ∧ (∀ s, a.eval x ≠ .string s) ∧ (∀ k n, a.eval x ≠ .float k n) ∧ (∀ k n m, a.eval x ≠ .complex k n m) := by
      cases k with
      | one q =>
        obtain ⟨hk1, ⟨hk2, hk3⟩, hk4⟩ := hk
        simp only [eqV] at hb
        have he : (Op.equal ty (a.eval x) (a.eval y)).run P w = .ok b w := eqS_ok hT.toTOk hH hxv hyv hk1 hb 9999
        refine ⟨he, ?_⟩
        generalize ax.ev t = X at hb hxv
        generalize ay.ev t = Y at hb hyv
        cases q with
        | pair => exact hk1.elim
        | int => exact absurd rfl hk2
        | str => exact absurd rfl hk3
        | iface =>
          have hc := hk4 rfl
          simp only [eqS] at hb
          split at hb
          · have e1 : a.eval x = .nilIface := hxv
            have e2 : a.eval y = .nilIface := hyv
            rw [e1, e2]
            exact ⟨fun op => eqGuard_nil hc, by simp, by simp, by simp, by simp⟩
          · obtain ⟨z, e2, _⟩ := hyv
            have e1 : a.eval x = .nilIface := hxv
            rw [e1, e2]
            exact ⟨fun op => eqGuard_other (by simp) (by simp), by simp, by simp, by simp, by simp⟩
          · obtain ⟨z, e1, _⟩ := hxv
            rw [e1]
            exact ⟨fun op => eqGuard_scal (by simp) (by simp), by simp, by simp, by simp, by simp⟩
          · cases hb
        | bool =>
          simp only [eqS] at hb
          split at hb
          · rw [VRel.bool_inv hxv]; exact ⟨fun op => eqGuard_scal (by simp) (by simp), by simp, by simp, by simp, by simp⟩
          · cases hb
        | ptr =>
          simp only [eqS] at hb
          split at hb
          · have e1 : a.eval x = .pointer none := hxv
            rw [e1]; exact ⟨fun op => eqGuard_scal (by simp) (by simp), by simp, by simp, by simp, by simp⟩
          · have e1 : a.eval x = .pointer none := hxv
            rw [e1]; exact ⟨fun op => eqGuard_scal (by simp) (by simp), by simp, by simp, by simp, by simp⟩
          · obtain ⟨z, _, e1⟩ := hxv
            rw [e1]; exact ⟨fun op => eqGuard_scal (by simp) (by simp), by simp, by simp, by simp, by simp⟩
          · obtain ⟨z, _, e1⟩ := hxv
            rw [e1]; exact ⟨fun op => eqGuard_scal (by simp) (by simp), by simp, by simp, by simp, by simp⟩
          · cases hb
        | sl =>
          simp only [eqS] at hb
          split at hb
          · have e1 : a.eval x = .slice none 0 0 := hxv
            rw [e1]; exact ⟨fun op => eqGuard_scal (by simp) (by simp), by simp, by simp, by simp, by simp⟩
          · have e1 : a.eval x = .slice none 0 0 := hxv
            rw [e1]; exact ⟨fun op => eqGuard_scal (by simp) (by simp), by simp, by simp, by simp, by simp⟩
          · obtain ⟨z, ad, c, _, e1, _⟩ := hxv
            rw [e1]; exact ⟨fun op => eqGuard_scal (by simp) (by simp), by simp, by simp, by simp, by simp⟩
          · cases hb
        | map =>
          simp only [eqS] at hb
          split at hb
          · have e1 : a.eval x = .map none := hxv
            rw [e1]; exact ⟨fun op => eqGuard_scal (by simp) (by simp), by simp, by simp, by simp, by simp⟩
          · have e1 : a.eval x = .map none := hxv
            rw [e1]; exact ⟨fun op => eqGuard_scal (by simp) (by simp), by simp, by simp, by simp, by simp⟩
          · obtain ⟨z, _, e1⟩ := hxv
            rw [e1]; exact ⟨fun op => eqGuard_scal (by simp) (by simp), by simp, by simp, by simp, by simp⟩
          · cases hb
        | func =>
          simp only [eqS] at hb
          split at hb
          · have e1 : a.eval x = .nilFunc := hxv
            rw [e1]; exact ⟨fun op => eqGuard_scal (by simp) (by simp), by simp, by simp, by simp, by simp⟩
          · have e1 : a.eval x = .nilFunc := hxv
            rw [e1]; exact ⟨fun op => eqGuard_scal (by simp) (by simp), by simp, by simp, by simp, by simp⟩
          · obtain ⟨z, z', e1, _⟩ := hxv
            rw [e1]; exact ⟨fun op => eqGuard_scal (by simp) (by simp), by simp, by simp, by simp, by simp⟩
          · cases hb
      | cells qs =>
        simp only [eqV] at hb
        split at hb
        · rename_i l m e1 e2
          rw [e1] at hxv
          rw [e2] at hyv
          obtain ⟨us, g1, hl⟩ := hxv
          obtain ⟨vs, g2, hm⟩ := hyv
          rw [g1, g2]
          rcases hk with ⟨fs, h1, h2, h3⟩ | ⟨n, e, q, h1, h2, h3, h4, h5⟩
          · have hu := hT.und h1
            have hfs : P.fieldsOf ty = fs := by simp [Program.fieldsOf, hu]
            have he : (Op.equal ty (.agg us) (.agg vs)).run P w = .ok b w := by
              show (Op.equalIn (9999 + 1) ty (.agg us) (.agg vs)).run P w = _
              rw [run_equalIn_struct w 9999 ty us vs (by rw [hfs]; exact hu) (hT.cmp _ h2), hfs]
              exact eqFields_run hT.toTOk hH hl hm 9998 (i := 0) h3 (by simpa using hb)
            have hgt : P.eqGuardType P.depth ty = false := by
              rw [hdep]
              simp only [Program.eqGuardType, hu]
              rw [← Array.any_toList]
              exact eqFields_guard hT.toTOk _ h3
            exact ⟨he, fun op => eqGuard_agg hgt, by simp, by simp, by simp, by simp⟩
          · have hu := hT.und h1
            subst h5
            have he : (Op.equal ty (.agg us) (.agg vs)).run P w = .ok b w := by
              show (Op.equalIn (9999 + 1) ty (.agg us) (.agg vs)).run P w = _
              unfold Tys.size at h4
              cases hg : T.get e with
              | none => simp [hg] at h4
              | some i =>
                simp only [hg] at h4
                have hc : P.cellsOf e = 1 := by
                  simp [Program.cellsOf, hT.info _ _ hg]
                  simpa using h4
                rw [run_equalIn_array w 9999 us vs hu (hT.info _ _ hg), hc, List.range_eq_range']
                exact eqItems_run hT.toTOk hH hl hm h2 h3 9998 (i := 0) (by simpa using hb)
            have hgt : P.eqGuardType P.depth ty = false := by
              rw [hdep]
              simp only [Program.eqGuardType, hu]
              exact eqGuardType_scal hT.toTOk h2 _
            exact ⟨he, fun op => eqGuard_agg hgt, by simp, by simp, by simp, by simp⟩
        · cases hb
    obtain ⟨he, hg, h1, h2, h3, h4⟩ := main
    obtain ⟨r1, r2⟩ := run_eql he h1 h2 h3 h4
    cases neg
    · simp [execOp, ho, hg, r1]
    · simp [execOp, ho, hg, r2]
  · cases h
end
end Go.Am
end
