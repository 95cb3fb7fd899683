/- Part of the proof: AmRecover, AmExt4, AmGrow, AmCount. -/
import Derived.Test.YtpphacngohhmhaaGreatDoorAm21
import Derived.RecoverIn
import Derived.Laws.AppendOwn
set_option linter.unusedSimpArgs false
set_option linter.unusedVariables false
section
namespace Go.Am
open Go Go.RowKit

/-! A deferred function that asks recover behind its first region, where nothing panics. -/
def dRec (T : Tys) (nt : Nat) (r0 : Code) : List AVal → AHeap → Option AHeap := fun args h =>
  match args0 args 0 nt .l with
  | some t => match ev ⟨.l, .l, .l⟩ 3 (comp T nt false r0) none ⟨t, []⟩ h with
    | some (.normal, ⟨_, []⟩, h') => some h'
    | _ => none
  | none => none

section
variable {P : Program} {T : Tys} {B : Nat} {φ : Emb} {H : AHeap} {w : World} {nt : Nat} {t : PT AVal} {a : Act}

theorem EnvOk.empty : EnvOk P T B ⟨.l, .l, .l⟩ := ⟨fun f fi _ h => (by rw [get_nil] at h; cases h), fun f s _ h => (by rw [get_nil] at h; cases h), fun f s _ h => (by rw [get_nil] at h; cases h)⟩

theorem dsumOk_recover (hT : TOk2 T P) (hm : P.follows .mixedOrders = true) {f : FuncId} {fn : Func} (hf : P.funcs[f]? = some fn) (hname : (fn.name == "runtime.NumGoroutine") = false) {r0 x : Code} {i1 i2 nt : Nat} {oV oA : Oper} {ops2 : Array Oper}
    (hb : fn.body = some (.seq r0 (.seq (.region i1 #[oV, oA] false) (.seq (.region i2 ops2 false) (.cond (.tmp 15) x .skip)))))
    (hnt : fn.ntmps = nt) (hres : compRes T fn.results.toList = some []) (h13 : 16 ≤ nt) (hlt : nt < 2 ^ 31)
    {ats : Array TypeId} (hV : oV.op = .call { callee := .builtin .recover, args := #[], argTypes := ats }) (hVd : oV.dst = some 13) (hVg : oV.guard = none)
    (hA : oA.op = .assign (.tmp 13)) (hAd : oA.dst = some 3) (hAg : oA.guard = none)
    (c2 : compOpers T nt ops2.toList ops2.toList = some [⟨some (Pos.ofNat 14), .move (.t (Pos.ofNat 3)), none⟩, ⟨some (Pos.ofNat 15), .eq true (.one .iface) (.t (Pos.ofNat 14)) (.c .inil), none⟩]) : DsumOk P T B f (dRec T nt r0) := by
  intro φ H w args args' H' hH hl h
  unfold dRec at h
  split at h
  rotate_left
  · cases h
  rename_i t0 ht0
  split at h
  rotate_left
  · cases h
  rename_i t1 h1 hev
  cases h
  refine ⟨run_callFunc hf hname hb, ?_⟩
  refine callsDIn_of_wpSIn hf hb trivial fun c₀ cs hmode => ?_
  rw [hnt]
  have hact : ActRel φ nt ⟨t0, []⟩ { tmps := args' ++ Array.replicate (nt - args'.size) undef, defers := [] } := act_start ht0 hl hlt
  generalize ({ tmps := args' ++ Array.replicate (nt - args'.size) undef, defers := [] } : Act) = a at hact ⊢
  have hw0 := sound (P := P) (B := B) hT EnvOk.empty hm 3 r0 nt none none ⟨t0, []⟩ H φ a w hH hact trivial hev
  refine wpSIn_seq (wpSIn_of_wpIn rfl (wpIn_mono hw0 fun e a1 w1 hp => ?_))
  obtain ⟨rfl, φ1, hS, hact1⟩ := hp
  simp only [exitOf, Exit.thenS]
  refine wpSIn_seq (wpSIn_region ?_)
  show wpOpsSIn _ _ _ _ _ [0, 1] _ _ _
  have hrunV : (execOp a1.eval oV).run P w1 = .ok .recover w1 := by
    simp [execOp, hV, resolve, invoke, builtin]
  have hrec : recoverD (c₀ :: cs) = none := by
    simp [recoverD, hmode]
  have hsz : a1.tmps.size = nt := hact1.t.1
  have hgV : Region.wanted oV (yielded #[oV, oA] a1.tmps) = true := by simp [Region.wanted, hVg]
  have e13 : Nat.blt 13 nt = true := by rw [Nat.blt_eq]; omega
  have e3 : Nat.blt 3 nt = true := by rw [Nat.blt_eq]; omega
  have hact2 := hact1.put (o := oV) (d := some (Pos.ofNat 13)) (by rw [hVd]; simp only [dstOf, e13]) (v := .inil) (u := .nilIface) rfl
  have hact3 := hact2.put (o := oA) (d := some (Pos.ofNat 3)) (by rw [hAd]; simp only [dstOf, e3]) (v := .inil) (u := .nilIface) rfl
  rw [hVd] at hact2
  rw [hVd, hAd] at hact3
  have hgA : Region.wanted oA (yielded #[oV, oA] (a1.put (some 13) .nilIface).tmps) = true := by simp [Region.wanted, hAg]
  have hrunA : (execOp (a1.put (some 13) .nilIface).eval oA).run P w1 = .ok (.value .nilIface) w1 := by
    have : (a1.put (some 13) .nilIface).eval (.tmp 13) = .nilIface := by
      have : 13 < nt := by omega
      simp [Act.eval, Act.put, hsz, this]
    simp [execOp, hA, this]
  have g0 : (#[oV, oA] : Array Oper)[0]? = some oV := rfl
  have g1 : (#[oV, oA] : Array Oper)[1]? = some oA := rfl
  unfold wpOpsSIn
  rw [g0]
  refine ⟨fun f _ => trivial, ?_⟩
  rw [if_pos hgV, hrunV]
  show (match recoverD (c₀ :: cs) with | some (v, cs') => _ | none => _)
  rw [hrec]
  rw [hVd]
  show wpOpsSIn _ _ _ _ _ [1] _ _ _
  unfold wpOpsSIn
  rw [g1]
  refine ⟨fun f _ => trivial, ?_⟩
  rw [if_pos hgA, hrunA]
  show wpOpsSIn _ _ _ _ _ [] _ _ _
  rw [hAd]
  unfold wpOpsSIn
  simp only [Exit.thenS]
  -- nothing was recovered
  obtain ⟨t2, hq2, g15⟩ : ∃ t2, qops H' [⟨some (Pos.ofNat 14), .move (.t (Pos.ofNat 3)), none⟩, ⟨some (Pos.ofNat 15), .eq true (.one .iface) (.t (Pos.ofNat 14)) (.c .inil), none⟩] (tput (tput t1 (some (Pos.ofNat 13)) .inil) (some (Pos.ofNat 3)) .inil) = some t2 ∧ tget t2 (Pos.ofNat 15) = .bool false := by
    refine qcons .inil rfl (qq_move (by simp [AOpnd.ev, tget_puts])) ?_
    refine qcons (.bool false) rfl (by simp [quiet, AOpnd.ev, tget_puts, eqV, eqS]) ?_
    exact qnil (by simp [tget_puts])
  refine wpSIn_seq (wpSIn_of_wpIn rfl (qregion_ok (r := none) hT c2 hS.rel hact3 hq2 fun a4 hact4 => ?_))
  simp only [Exit.thenS]
  have hv15 : a4.eval (.tmp 15) = .bool false := by
    have := hact4.t.2.2 15 (by decide)
    rw [g15] at this
    exact this
  refine wpSIn_cond hv15 ?_
  rw [if_neg (by simp)]
  refine wpSIn_of_wpIn rfl (wpIn_skip ?_)
  obtain ⟨u, hu, _⟩ := results_run (P := P) hT.toTOk hS.rel hact4.t hres (l := []) rfl
  refine ⟨by have := hact4.ds; exact this, .returning, ?_, u, hu, ⟨u, rfl⟩, rfl, φ1, hS⟩
  rw [← hmode]
end
end Go.Am
end

section
namespace Go.Am
open Go Go.RowKit

/-! internal/bytealg.IndexByte, of a string or of bytes. -/
def fnd (c : Nat) : List Nat → Nat → Int
  | [], _ => .negSucc 0
  | x :: l, n => match Nat.beq x c with
    | true => .ofNat n
    | false => fnd c l (Nat.succ n)
def sIndexByte : List AVal → AHeap → ARes
  | [s, .int .u8 (.ofNat c)], h => match Nat.blt c 256, bstr h s with
    | true, some s => some (.int .i64 (fnd c s 0), h)
    | _, _ => none
  | _, _ => none

theorem fnd_eq (c : Nat) (hc : c < 256) : ∀ (s : List Nat) (n : Nat), (∀ x ∈ s, x < 256) → fnd c s n = if Go.Lib.indexByte (s.map UInt8.ofNat) (UInt8.ofNat c) == -1 then -1 else Go.Lib.indexByte (s.map UInt8.ofNat) (UInt8.ofNat c) + n
  | [], n, _ => rfl
  | x :: s, n, h => by
    have hx := h x (by simp)
    have ih := fnd_eq c hc s (n + 1) fun y hy => h y (List.mem_cons_of_mem _ hy)
    have hge := Go.Lib.indexByte_ge (s.map UInt8.ofNat) (UInt8.ofNat c)
    simp only [List.map_cons, Go.Lib.indexByte, fnd]
    by_cases e : x = c
    · subst e
      rw [Nat.beq_refl]
      simp
    · have h1 : Nat.beq x c = false := by
        cases hb : Nat.beq x c with
        | false => rfl
        | true => exact absurd (Nat.eq_of_beq_eq_true hb) e
      have h2 : ¬ ((UInt8.ofNat x == UInt8.ofNat c) = true) := fun h' => e (ofNat_inj hx hc (by simpa using h'))
      rw [h1, if_neg h2]
      simp only [Nat.succ_eq_add_one, ih]
      by_cases e2 : Go.Lib.indexByte (s.map UInt8.ofNat) (UInt8.ofNat c) = -1
      · simp [e2]
      · have h3 : (Go.Lib.indexByte (s.map UInt8.ofNat) (UInt8.ofNat c) == -1) = false := by simpa using e2
        rw [h3]
        simp only [Bool.false_eq_true, if_false]
        have h4 : (Go.Lib.indexByte (s.map UInt8.ofNat) (UInt8.ofNat c) + 1 == -1) = false := by
          have : Go.Lib.indexByte (s.map UInt8.ofNat) (UInt8.ofNat c) + 1 ≠ -1 := by omega
          simpa using this
        rw [h4]
        simp only [Bool.false_eq_true, if_false]
        push_cast
        omega

theorem ib_unfold (b c : Value) : Extern.BytealgIndexByte.indexByte #[b, c] = (do
    let b ← Extern.Bytes.bytesOf b
    let c ← Extern.Bytes.asByte c
    match (List.range b.size).find? fun i => b[i]! == c with
    | some i => pure (goInt i)
    | none => pure (goInt (-1))) := rfl
theorem sumOk_indexByte {P : Program} {T : Tys} {B : Nat} {f : FuncId} {fn : Func} (hf : P.funcs[f]? = some fn) (hname : (fn.name == "runtime.NumGoroutine") = false) (hb : fn.body.isNone = true) (hn : Extern.findNext fn = none)
    (he : Extern.find fn = some Extern.BytealgIndexByte.indexByte) : SumOk P T B f sIndexByte := by
  intro φ H w args args' v H' hH hl h
  unfold sIndexByte at h
  split at h
  · rename_i s c
    split at h
    · rename_i s' hc hs
      have hc : c < 256 := by simpa [Nat.blt_eq] using hc
      cases h
      obtain ⟨u1, r1, e1, h1, u2, r2, e2, h2, e3⟩ := hl
      subst e2
      have e3 : r2 = [] := e3
      subst e3
      obtain ⟨hbo, hlt⟩ := bstr_ok (P := P) hH h1 hs
      have e5 : u2 = .int .u8 (c : Nat) := h2
      have ha : args' = #[u1, .int .u8 (c : Nat)] := by
        apply Array.ext'
        rw [e1, e5]
      refine .inr ⟨.int .i64 (fnd c s' 0), w, φ, ?_, rfl, Sim.refl hH⟩
      rw [run_callFunc_extern hf hname hb hn he, ha]
      have hsame : (Extern.BytealgIndexByte.indexByte #[u1, .int .u8 (c : Nat)]).run P w = (Extern.BytealgIndexByte.indexByte #[.string (strV s'), .int .u8 (c : Nat)]).run P w := by
        have hbo2 : (Extern.Bytes.bytesOf (.string (strV s'))).run P w = .ok (strV s') w := by simp [Extern.Bytes.bytesOf]
        rw [ib_unfold, ib_unfold]
        simp only [Sem.run_bind, hbo, hbo2, Result.andThen_ok]
      have hrun : (Extern.BytealgIndexByte.indexByte #[u1, .int .u8 (c : Nat)]).run P w = .ok (.int .i64 (fnd c s' 0)) w := by
        rw [hsame, Go.Lib.run_indexByteString]
        have hcc : ((c : Int).toNat.toUInt8) = UInt8.ofNat c := by simp [Nat.toUInt8]
        rw [hcc]
        have h0 := fnd_eq c hc s' 0 hlt
        have hd : (strV s').data.toList = s'.map UInt8.ofNat := rfl
        rw [h0, hd]
        by_cases e2 : Go.Lib.indexByte (s'.map UInt8.ofNat) (UInt8.ofNat c) = -1
        · simp [e2]
        · have h3 : (Go.Lib.indexByte (s'.map UInt8.ofNat) (UInt8.ofNat c) == -1) = false := by simpa using e2
          rw [h3]
          simp
      rw [hrun]
      rfl
    · cases h
  · cases h
end Go.Am
end

section
namespace Go.Am
open Go Go.RowKit

/-! slices.Grow, of elements of one cell and eight bytes. -/
def anys : Nat → List AVal
  | 0 => []
  | n + 1 => .any :: anys n
def sGrow : List AVal → AHeap → ARes
  | [s, .int .i64 (.ofNat n)], h => match Nat.ble n 1000000 with
    | true => match s with
      | .snil => match n with
        | 0 => some (.snil, h)
        | m + 1 => match h.new (.cells (anys (m + 1)) true false) with
          | (b, h') => some (.sl b 0 0 (Nat.succ m) 1, h')
      | .sl b o len cap 1 => match Nat.ble len 1000000, PT.get b h.t, hloadN h b o len with
        | true, some (.cells _ _ false), some l => match Nat.ble (Nat.add len n) cap with
          | true => some (.sl b o len cap 1, h)
          | false => match (h.kill b).new (.cells (l ++ anys n) true false) with
            | (b', h') => some (.sl b' 0 len (Nat.add len n) 1, h')
        | _, _, _ => none
      | _ => none
    | false => none
  | _, _ => none

theorem anys_length : ∀ n, (anys n).length = n
  | 0 => rfl
  | n + 1 => by simp [anys, anys_length n]
theorem anys_get : ∀ {n i : Nat} {a : AVal}, (anys n)[i]? = some a → a = .any ∧ i < n
  | 0, i, a, h => by simp [anys] at h
  | n + 1, 0, a, h => by simp [anys] at h; exact ⟨h.symm, by omega⟩
  | n + 1, i + 1, a, h => by
    simp [anys] at h
    obtain ⟨h1, h2⟩ := anys_get h
    exact ⟨h1, by omega⟩

section
variable {P : Program} {T : Tys} {B : Nat} {φ : Emb} {H : AHeap} {w : World}

/-- Of what lies behind a row nothing is told any more. -/
theorem open_any (hH : HRel T B φ H w) {b : Pos} {x : Place} (hx : φ b = some x) {m : List AVal} {op : Bool} (hb : PT.get b H.t = some (.cells m op false)) {o n : Nat} {old : List AVal} (hold : hloadN H b o n = some old) {k : Nat} (hroom : x.s + o + n + k ≤ x.k) :
    Sim T B φ H w (φ.put H.nx ⟨x.c, x.s + o, x.k⟩) ((H.kill b).new (.cells (old ++ anys k) true false)).2 w := by
  obtain ⟨arr, e, lo, hi, h1, h2, h3, h4, h5, h6, h7⟩ := hH.obj b _ x hb hx
  have hB := h7 rfl
  obtain ⟨old', q1, q2, q3, _⟩ := hloadN_ok (P := { (default : Program) with }) hH hx hold
  have hfresh : φ H.nx = none := hH.fresh
  have hnb : H.nx ≠ b := fun e => by rw [← e, hfresh] at hx; cases hx
  have kept : ∀ q, q ≠ H.nx → q ≠ b → PT.get q ((H.kill b).new (.cells (old ++ anys k) true false)).2.t = PT.get q H.t := by
    intro q h1 h2
    simp only [AHeap.new, AHeap.kill]
    rw [PT.get_set_other _ _ _ _ (fun e => h1 e.symm), PT.get_set_other _ _ _ _ (fun e => h2 e.symm)]
  have gone : PT.get b ((H.kill b).new (.cells (old ++ anys k) true false)).2.t = none := by
    simp only [AHeap.new, AHeap.kill]
    rw [PT.get_set_other _ _ _ _ hnb, PT.get_set_same]
  refine ⟨⟨Emb.le_put _ hfresh, fun p hp hn => ?_, by simp [AHeap.new, AHeap.kill, Pos.toNat_succ]⟩, ?_, Below.refl _ _⟩
  · have p1 : p ≠ H.nx := fun e => by rw [e] at hp; omega
    have p2 : p ≠ b := fun e => by rw [e, hx] at hn; cases hn
    exact ⟨by rw [Emb.put_other _ _ p1]; exact hn, kept p p1 p2⟩
  · refine hH.place H.nx _ hfresh (by simp [AHeap.new, AHeap.kill, Pos.toNat_succ]) (by simp [AHeap.new, AHeap.kill, Pos.toNat_succ]) (fun q hq => ?_) (fun q z hq hg hz => ?_) (hH.low b x hx).2 (Nat.le_refl _) (fun ob hob => ?_)
    · by_cases e : q = b
      · subst e; exact .inr gone
      · exact .inl (kept q hq e)
    · have hqb : q ≠ b := fun e => by rw [e] at hg; exact hg gone
      rw [kept q hq hqb] at hg
      have hne : z.c ≠ x.c := hH.inj q b z x hqb hg (by rw [hb]; simp) hz hx
      exact ⟨hne, rfl⟩
    · have : ob = .cells (old ++ anys k) true false := by
        simp only [AHeap.new, AHeap.kill, PT.get_set_same] at hob
        exact (Option.some.inj hob).symm
      subst this
      have hle := Emb.le_put (φ := φ) (p := H.nx) ⟨x.c, x.s + o, x.k⟩ hfresh
      have hol := q2.length
      have hon := hloadN_length hold
      refine ⟨arr, e, lo, hi, h1, h2, ?_, fun i y hy => ?_, h5, fun h => (by cases h), fun _ => hB⟩
      · show x.s + o + (old ++ anys k).length ≤ x.k
        rw [List.length_append, anys_length]; omega
      · by_cases hi' : i < old.length
        · rw [List.getElem?_append_left hi'] at hy
          obtain ⟨v, k1, k2⟩ := q2.get hy
          have := q3 i v k1
          rw [cells_at h1] at this
          exact ⟨v, this, VRel.mono hle _ _ k2⟩
        · rw [List.getElem?_append_right (by omega)] at hy
          obtain ⟨rfl, hik⟩ := anys_get hy
          have : x.s + o + i < arr.size := by rw [h2]; omega
          exact ⟨arr[x.s + o + i], by rw [Array.getElem?_eq_getElem this], trivial⟩

theorem sumOk_grow {f : FuncId} {fn : Func} {c : Code} (hf : P.funcs[f]? = some fn) (hname : (fn.name == "runtime.NumGoroutine") = false) (hbody : fn.body = some c) {te : TypeId} {z : Value} (hz : z.cells.size = 1)
    (hroom : ∀ (base : Option Addr) (l c n : Nat) (w : World), l ≤ c → c ≤ 9223372036854775807 → n ≤ 9223372036854775807 → l + n ≤ c → Calls P f #[.slice base l c, .int .i64 n] w fun e w' => e = .returned (.slice base l c) ∧ w' = w)
    (hgrow : ∀ (base : Option Addr) (l c n : Nat) (cs : List Value) (w : World), l ≤ c → c < l + n → (l + n) * 8 ≤ 140737488355328 → l + n ≤ 4611686018427387904 → cs.length = c * 1 → (base = none → c = 0) →
      (∀ a, base = some a → ∀ j v, cs[j]? = some v → w.cell? (a.add j) = some v) → Calls P f #[.slice base l c, .int .i64 n] w fun e w' =>
        e = .returned (.slice (some ⟨w.heap.size, 0, none⟩) l (grownCap w (l + n) c te)) ∧
        w' = w.drew.alloc (.cells (cs.toArray ++ Builtin.zeroCells z.cells (l + n - c) ++ Builtin.zeroCells z.cells (grownCap w (l + n) c te - (l + n))) te)) : SumOk P T B f sGrow := by
  intro φ H w args args' v H' hH hl h
  unfold sGrow at h
  split at h
  rotate_left
  · cases h
  rename_i s n
  split at h
  rotate_left
  · cases h
  rename_i hn
  have hn : n ≤ 1000000 := Nat.le_of_ble_eq_true hn
  obtain ⟨u, r, e1, hu, u2, r2, e2, hu2, e3⟩ := hl
  have e3 : r2 = [] := e3
  subst e3
  subst e2
  have hu2 : u2 = .int .i64 (n : Nat) := hu2
  subst hu2
  have hargs : args' = #[u, .int .i64 (n : Nat)] := Array.ext' e1
  subst hargs
  -- what a call leads to
  have fin : ∀ {Q : Ending → World → Prop}, Calls P f #[u, .int .i64 (n : Nat)] w Q → (∀ e w', Q e w' → ∃ uu φ', e = .returned uu ∧ VRel φ' v uu ∧ Sim T B φ H w φ' H' w') → CallOk P T B φ H w f #[u, .int .i64 (n : Nat)] v H' := by
    intro Q hQ hk
    exact .inl ⟨run_callFunc hf hname hbody, CallsIn.mono (callsIn_wide.2 hQ) hk⟩
  -- a new row
  have newRow : ∀ {b : Option Addr} {len cap' : Nat} {cs : List Value} {old : List AVal} {H0 : AHeap}, Sim T B φ H w φ H0 w → cap' < len + n → len ≤ cap' → len ≤ 1000000 → cs.length = cap' → old.length = len → LRel φ old (cs.take len) →
      ∃ φ', Sim T B φ H w φ' (H0.new (.cells (old ++ anys n) true false)).2 (w.drew.alloc (.cells (cs.toArray ++ Builtin.zeroCells z.cells (len + n - cap') ++ Builtin.zeroCells z.cells (grownCap w (len + n) cap' te - (len + n))) te)) ∧
        VRel φ' (.sl H0.nx 0 len (len + n) 1) (.slice (some ⟨w.heap.size, 0, none⟩) len (grownCap w (len + n) cap' te)) := by
    intro b len cap' cs old H0 hS0 hc hlc hlen hcs hold hrel
    have hge := grown_ge w (len + n) cap' te
    have hH2 : HRel T B φ H0 w.drew := hS0.rel.drawn rfl
    have hk : (cs.toArray ++ Builtin.zeroCells z.cells (len + n - cap') ++ Builtin.zeroCells z.cells (grownCap w (len + n) cap' te - (len + n))).size = grownCap w (len + n) cap' te := by
      simp only [Array.size_append, List.size_toArray, Builtin.zeroCells, Array.size_map, Array.size_range, hz, hcs]
      omega
    have hcells : ∀ (i : Nat) (a : AVal), (old ++ anys n)[i]? = some a → ∃ v, (cs.toArray ++ Builtin.zeroCells z.cells (len + n - cap') ++ Builtin.zeroCells z.cells (grownCap w (len + n) cap' te - (len + n)))[i]? = some v ∧ VRel φ a v := by
      intro i y hy
      by_cases hi : i < old.length
      · rw [List.getElem?_append_left hi] at hy
        obtain ⟨vv, g1, g2⟩ := hrel.get hy
        refine ⟨vv, ?_, g2⟩
        rw [List.getElem?_take] at g1
        split at g1
        · have hic : i < cs.length := by omega
          rw [Array.append_assoc, Array.getElem?_append_left (by simpa using hic)]
          simpa using g1
        · cases g1
      · rw [List.getElem?_append_right (by omega)] at hy
        obtain ⟨rfl, hik⟩ := anys_get hy
        have : i < (cs.toArray ++ Builtin.zeroCells z.cells (len + n - cap') ++ Builtin.zeroCells z.cells (grownCap w (len + n) cap' te - (len + n))).size := by rw [hk]; omega
        exact ⟨_, Array.getElem?_eq_getElem this, trivial⟩
    have S := Sim.new hH2 (.cells (old ++ anys n) true false) (.cells (cs.toArray ++ Builtin.zeroCells z.cells (len + n - cap') ++ Builtin.zeroCells z.cells (grownCap w (len + n) cap' te - (len + n))) te) _ (ORel.cells_new hH2.base hcells (by rw [List.length_append, anys_length, hk]; omega) true)
    rw [hk] at S
    refine ⟨_, hS0.trans ((⟨Ext.refl _ _, hH2, (Below.refl B w).drew⟩ : Sim T B φ H0 w φ H0 w.drew).trans S), ⟨w.heap.size, 0, grownCap w (len + n) cap' te⟩, ⟨w.heap.size, 0, none⟩, _, Emb.put_same _ _ _, rfl, by omega, hge, .inr (.inl ⟨by decide, rfl, ?_, Go.grownCap_le_maxLen _ _ _ _ (by unfold maxLen; omega)⟩)⟩
    show 0 + 0 + grownCap w (len + n) cap' te * 1 ≤ grownCap w (len + n) cap' te
    omega
  split at h
  · -- the nil slice
    have hu : u = .slice none 0 0 := hu
    subst hu
    split at h
    · cases h
      have hr := hroom none 0 0 0 w (Nat.le_refl _) (Nat.zero_le _) (Nat.zero_le _) (Nat.le_refl _)
      refine fin hr ?_
      rintro e w' ⟨rfl, rfl⟩
      exact ⟨_, φ, rfl, rfl, Sim.refl hH⟩
    · rename_i m hm
      simp only [Option.some.injEq, Prod.mk.injEq] at h
      obtain ⟨rfl, rfl⟩ := h
      obtain ⟨φ', g1, g2⟩ := newRow (b := none) (len := 0) (cap' := 0) (cs := []) (old := []) (Sim.refl hH) (by omega) (by omega) (by omega) rfl rfl rfl
      have hr := hgrow none 0 0 (m + 1) [] w (Nat.le_refl _) (by omega) (by omega) (by omega) rfl (fun _ => rfl) (fun a ha => by cases ha)
      refine fin hr ?_
      rintro e w' ⟨rfl, rfl⟩
      refine ⟨_, φ', rfl, ?_, g1⟩
      simpa [AHeap.new] using g2
  · rename_i b o len cap
    split at h
    rotate_left
    · cases h
    rename_i mm oo l hlen hb hold
    have hlen : len ≤ 1000000 := Nat.le_of_ble_eq_true hlen
    obtain ⟨y, a', cap', f1, f2, f3, f4, f5, f6, f7⟩ := sl_addr hu
    subst f2
    have hll := hloadN_length hold
    have hc63 : cap' ≤ 9223372036854775807 := by
      rcases Nat.eq_zero_or_pos cap' with h0 | h0
      · omega
      · exact (f7 (by decide) h0).2.2
    split at h
    · rename_i hle
      have hle : len + n ≤ cap := Nat.le_of_ble_eq_true hle
      cases h
      refine fin (hroom (some a') len cap' n w (by omega) hc63 (by omega) (by omega)) ?_
      rintro e w' ⟨rfl, rfl⟩
      exact ⟨_, φ, rfl, hu, Sim.refl hH⟩
    · rename_i hle
      simp only [Option.some.injEq, Prod.mk.injEq] at h
      obtain ⟨rfl, rfl⟩ := h
      rcases Nat.lt_or_ge cap' (len + n) with hc | hc
      · -- the model grows it
        obtain ⟨arr, ety, lo, hi, k1, k2, k3, k4, _⟩ := hH.obj b _ y hb f1
        obtain ⟨us, q1, q2, q3, _⟩ := hloadN_ok (P := P) hH f1 hold
        by_cases h0 : cap' = 0
        · subst h0
          have hl0 : len = 0 := by omega
          subst hl0
          obtain ⟨φ', g1, g2⟩ := newRow (b := some a') (len := 0) (cap' := 0) (cs := []) (old := l) (Sim.kill hH f1) (by omega) (by omega) (by omega) rfl hll (by
            have : l = [] := List.length_eq_zero_iff.1 hll
            subst this; rfl)
          refine fin (hgrow (some a') 0 0 n [] w (by omega) (by omega) (by omega) (by omega) rfl (fun h => by cases h) (fun a _ j v hj => by simp at hj)) ?_
          rintro e w' ⟨rfl, rfl⟩
          exact ⟨_, φ', rfl, g2, g1⟩
        · obtain ⟨ea, eb, _⟩ := f7 (by decide) (by omega)
          let cs : List Value := (arr.toList.drop (y.s + o)).take cap'
          have hcsl : cs.length = cap' := by
            have : arr.toList.length = y.k := by simpa using k2
            simp only [cs, List.length_take, List.length_drop, this]
            omega
          have hcsg : ∀ (j : Nat) (v : Value), cs[j]? = some v → arr[y.s + o + j]? = some v := by
            intro j v hj
            simp only [cs, List.getElem?_take, List.getElem?_drop] at hj
            split at hj
            · simpa using hj
            · cases hj
          have hrel : LRel φ l (cs.take len) := by
            have : cs.take len = us := by
              apply List.ext_getElem?
              intro j
              by_cases hj : j < len
              · have h1 : j < us.length := by omega
                have := q3 j us[j] (by simp [h1])
                rw [cells_at k1] at this
                rw [List.getElem?_take, if_pos hj, List.getElem?_eq_getElem h1]
                simp only [cs, List.getElem?_take, List.getElem?_drop]
                rw [if_pos (by omega)]
                simpa using this
              · rw [List.getElem?_take, if_neg hj, List.getElem?_eq_none (by omega)]
            rw [this]; exact q2
          obtain ⟨φ', g1, g2⟩ := newRow (b := some a') (len := len) (cap' := cap') (cs := cs) (old := l) (Sim.kill hH f1) hc (by omega) hlen hcsl hll hrel
          refine fin (hgrow (some a') len cap' n cs w (by omega) hc (by omega) (by omega) (by omega) (fun h => by cases h) (fun a ha j v hj => ?_)) ?_
          · cases ha
            rw [ea, addr_add, cells_at k1]
            exact hcsg j v hj
          · rintro e w' ⟨rfl, rfl⟩
            exact ⟨_, φ', rfl, g2, g1⟩
      · -- there was room
        refine fin (hroom (some a') len cap' n w (by omega) hc63 (by omega) hc) ?_
        rintro e w' ⟨rfl, rfl⟩
        rcases Nat.eq_zero_or_pos cap' with h0 | h0
        · -- nothing is asked of no cells
          have hn0 : n = 0 := by omega
          have hl0 : len = 0 := by omega
          subst hn0 hl0
          have : Nat.ble (Nat.add 0 0) cap = true := by rw [Nat.ble_eq]; exact Nat.zero_le _
          rw [this] at hle; cases hle
        · obtain ⟨ea, eb, ec⟩ := f7 (by decide) h0
          have S := open_any hH f1 hb hold (k := n) (by omega)
          refine ⟨_, _, rfl, ⟨⟨y.c, y.s + o, y.k⟩, a', cap', Emb.put_same _ _ _, rfl, Nat.le_add_right _ _, hc, .inr (.inl ⟨by decide, by rw [ea]; rfl, eb, ec⟩)⟩, S⟩
  · cases h
end
end Go.Am
end

section
namespace Go.Am
open Go Go.RowKit

/-! internal/bytealg.Count, of bytes too. -/
def sCount : List AVal → AHeap → ARes
  | [s, .int .u8 (.ofNat c)], h => match Nat.blt c 256, bstr h s with
    | true, some s => some (.int .i64 (.ofNat (cnt c s 0)), h)
    | _, _ => none
  | _, _ => none
theorem ct_unfold (b c : Value) : Extern.BytealgCount.count #[b, c] = (do
    let b ← Extern.Bytes.bytesOf b
    let c ← Extern.Bytes.asByte c
    pure (goInt (b.foldl (fun n x => if x == c then n + 1 else n) (0 : Nat)))) := rfl
theorem sumOk_count {P : Program} {T : Tys} {B : Nat} {f : FuncId} {fn : Func} (hf : P.funcs[f]? = some fn) (hname : (fn.name == "runtime.NumGoroutine") = false) (hb : fn.body.isNone = true) (hn : Extern.findNext fn = none)
    (he : Extern.find fn = some Extern.BytealgCount.count) : SumOk P T B f sCount := by
  intro φ H w args args' v H' hH hl h
  unfold sCount at h
  split at h
  · rename_i s c
    split at h
    · rename_i s' hc hs
      have hc : c < 256 := by simpa [Nat.blt_eq] using hc
      cases h
      obtain ⟨u1, r1, e1, h1, u2, r2, e2, h2, e3⟩ := hl
      subst e2
      have e3 : r2 = [] := e3
      subst e3
      obtain ⟨hbo, hlt⟩ := bstr_ok (P := P) hH h1 hs
      have e5 : u2 = .int .u8 (c : Nat) := h2
      have ha : args' = #[u1, .int .u8 (c : Nat)] := by
        apply Array.ext'
        rw [e1, e5]
      refine .inr ⟨.int .i64 (cnt c s' 0 : Nat), w, φ, ?_, rfl, Sim.refl hH⟩
      rw [run_callFunc_extern hf hname hb hn he, ha]
      have hsame : (Extern.BytealgCount.count #[u1, .int .u8 (c : Nat)]).run P w = (Extern.BytealgCount.count #[.string (strV s'), .int .u8 (c : Nat)]).run P w := by
        have hbo2 : (Extern.Bytes.bytesOf (.string (strV s'))).run P w = .ok (strV s') w := by simp [Extern.Bytes.bytesOf]
        rw [ct_unfold, ct_unfold]
        simp only [Sem.run_bind, hbo, hbo2, Result.andThen_ok]
      have hcount : (Extern.BytealgCount.count #[u1, .int .u8 (c : Nat)]).run P w = .ok (.int .i64 (cnt c s' 0 : Nat)) w := by
        have hcc : ((c : Int).toNat.toUInt8) = UInt8.ofNat c := by simp [Nat.toUInt8]
        have h0 := cnt_eq c hc s' 0 hlt
        rw [hsame, Go.Lib.run_countString, hcc, h0, Nat.zero_add]
        rfl
      rw [hcount]
      rfl
    · cases h
  · cases h
end Go.Am
end
