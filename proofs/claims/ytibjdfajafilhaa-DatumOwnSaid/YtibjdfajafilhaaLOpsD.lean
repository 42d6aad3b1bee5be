/-
  Each operation that leaves the heap alone comes, in the model, to what the interpreter says.
-/
import Derived.Test.YtibjdfajafilhaaLOpsC
namespace Go.Lite
open Go
set_option linter.unusedSimpArgs false
set_option linter.unusedVariables false

variable {P : Program} {nb : NB} {ι : Emb} {H : Heap} {w : World} {fr : Fr} {a : Act} {nt : Nat}

theorem eqGuard_plain {op : BinOp} {t : TypeId} {x y : Operand} {u v : Value} (h : (∀ xs ys, u = .agg xs → v = .agg ys → P.eqGuardType P.depth t = false) ∧ ¬ (u = .nilIface ∧ v = .nilIface)) :
    (eqGuard op t x y u v).run P w = .ok () w := by
  obtain ⟨h1, h2⟩ := h
  unfold eqGuard
  cases op <;> simp only [Bool.not_true, Bool.not_false, if_true, Bool.false_eq_true, if_false, Sem.run_pure, Sem.run_ite, Sem.run_bind, Result.andThen_ok]
  all_goals
    split
    · exact absurd ⟨rfl, rfl⟩ h2
    · rename_i xs ys
      simp [h1 xs ys rfl rfl]
    · rfl

theorem bin_sound {op : BinOp} {t : TypeId} {e : EqT} {x y z : AV} {u v : Value} {ox oy : Operand} (ht : op = .eql ∨ op = .neq → eqT P t = some e) (hx : VRel nb ι x u) (hy : VRel nb ι y v) (h : bin op e x y = some z) :
    ∃ r, (do eqGuard op t ox oy u v; binOp op t u v : Sem Value).run P w = .ok r w ∧ VRel nb ι z r := by
  unfold bin at h
  split at h
  · rename_i k a k' b
    simp only [VRel] at hx hy
    subst hx; subst hy
    have hg : ∀ (oq : BinOp), (eqGuard oq t ox oy (.int k a) (.int k' b)).run P w = .ok () w := fun oq => eqGuard_plain ⟨by simp, by simp⟩
    split at h
    · obtain ⟨r, h1, h2⟩ := shiftBin_sound (P := P) (w := w) (nb := nb) (ι := ι) (yk := k') h
      exact ⟨r, by rw [Sem.run_bind, hg]; exact h1, h2⟩
    · obtain ⟨r, h1, h2⟩ := shiftBin_sound (P := P) (w := w) (nb := nb) (ι := ι) (yk := k') h
      exact ⟨r, by rw [Sem.run_bind, hg]; exact h1, h2⟩
    · split at h
      case isFalse => cases h
      rename_i hk
      subst hk
      obtain ⟨r, h1, h2⟩ := intBin_sound (P := P) (w := w) (nb := nb) (ι := ι) (t := t) h
      exact ⟨r, by rw [Sem.run_bind, hg]; exact h1, h2⟩
  · rename_i a b
    simp only [VRel] at hx hy
    obtain ⟨b1, rfl, h1⟩ := hx
    obtain ⟨b2, rfl, h2⟩ := hy
    obtain ⟨r, h3, h4⟩ := strBin_sound (P := P) (w := w) (nb := nb) (ι := ι) h1 h2 h
    refine ⟨r, ?_, h4⟩
    rw [Sem.run_bind, eqGuard_plain ⟨by simp, by simp⟩]
    simp only [Result.andThen_ok]
    rw [← h3]
    cases op <;> rfl
  · split at h
    · simp only [Option.map_eq_some_iff] at h
      obtain ⟨b, hb, rfl⟩ := h
      obtain ⟨h1, h2, h3, h4, h5, h6, h7⟩ := eqv_sound (P := P) (w := w) (ht (.inl rfl)) hx hy hb
      refine ⟨.bool b, ?_, by simp only [VRel]⟩
      rw [Sem.run_bind, eqGuard_plain ⟨h2, h3⟩]
      simp only [Result.andThen_ok]
      unfold binOp
      split
      all_goals first
        | exact absurd rfl (h4 _ _)
        | exact absurd rfl (h5 _)
        | exact absurd rfl (h6 _ _)
        | exact absurd rfl (h7 _ _ _)
        | simp_all
        | skip
    · simp only [Option.map_eq_some_iff] at h
      obtain ⟨b, hb, rfl⟩ := h
      obtain ⟨h1, h2, h3, h4, h5, h6, h7⟩ := eqv_sound (P := P) (w := w) (ht (.inr rfl)) hx hy hb
      refine ⟨.bool (!b), ?_, by simp only [VRel]⟩
      rw [Sem.run_bind, eqGuard_plain ⟨h2, h3⟩]
      simp only [Result.andThen_ok]
      unfold binOp
      split
      all_goals first
        | exact absurd rfl (h4 _ _)
        | exact absurd rfl (h5 _)
        | exact absurd rfl (h6 _ _)
        | exact absurd rfl (h7 _ _ _)
        | simp_all
        | skip
    · cases h

/-! ### Slices -/

theorem run_sliceBound {v : Value} {k : IntKind} {n y : Nat} {c : BoundsCode} (hv : v = .int k (n : Int)) (h : n ≤ y) : (Instr.sliceBound v y c).run P w = .ok n w := by
  subst hv
  unfold Instr.sliceBound
  have : (0 : Int) ≤ (n : Int) ∧ (n : Int) ≤ (y : Int) := ⟨by omega, by omega⟩
  simp [asIntOf, this]

/-- an optional bound -/
def BRel : Option Nat → Option Value → Prop
  | none, v => v = none
  | some n, v => ∃ k, v = some (.int k (n : Int))

theorem run_bounds {len cap : Nat} {l h m : Option Nat} {lo hi mx : Option Value} (hl : BRel l lo) (hh : BRel h hi) (hm : BRel m mx) (hmh : m ≠ none → h ≠ none) (isS : Bool)
    (h1 : l.getD 0 ≤ h.getD len) (h2 : h.getD len ≤ m.getD cap) (h3 : m.getD cap ≤ cap) : (Instr.sliceBounds isS len cap lo hi mx).run P w = .ok (l.getD 0, h.getD len, m.getD cap) w := by
  unfold Instr.sliceBounds
  cases m with
  | none =>
    simp only [BRel] at hm
    subst hm
    cases h with
    | none =>
      simp only [BRel] at hh
      subst hh
      cases l with
      | none => simp only [BRel] at hl; subst hl; simp
      | some l =>
        obtain ⟨k, rfl⟩ := hl
        simp only [Option.getD_some, Option.getD_none] at h1
        simp [run_sliceBound (P := P) (w := w) (k := k) rfl h1]
    | some h =>
      obtain ⟨k, rfl⟩ := hh
      simp only [Option.getD_some, Option.getD_none] at h1 h2
      cases l with
      | none => simp only [BRel] at hl; subst hl; simp [run_sliceBound (P := P) (w := w) (k := k) rfl h2]
      | some l =>
        obtain ⟨k', rfl⟩ := hl
        simp only [Option.getD_some] at h1
        simp [run_sliceBound (P := P) (w := w) (k := k) rfl h2, run_sliceBound (P := P) (w := w) (k := k') rfl h1]
  | some m =>
    obtain ⟨km, rfl⟩ := hm
    cases h with
    | none => exact absurd rfl (hmh (by simp))
    | some h =>
      obtain ⟨k, rfl⟩ := hh
      simp only [Option.getD_some] at h1 h2 h3
      cases l with
      | none => simp only [BRel] at hl; subst hl; simp [run_sliceBound (P := P) (w := w) (k := km) rfl h3, run_sliceBound (P := P) (w := w) (k := k) rfl h2]
      | some l =>
        obtain ⟨k', rfl⟩ := hl
        simp only [Option.getD_some] at h1
        simp [run_sliceBound (P := P) (w := w) (k := km) rfl h3, run_sliceBound (P := P) (w := w) (k := k) rfl h2, run_sliceBound (P := P) (w := w) (k := k') rfl h1]

theorem sliceOf_sound {t e : TypeId} {size : Nat} {x z : AV} {u : Value} {l h m : Option Nat} {lo hi mx : Option Value} (ht : P.underlying t = some (.slice e)) (hs : sizeT P e = some size)
    (hx : VRel nb ι x u) (hl : BRel l lo) (hh : BRel h hi) (hm : BRel m mx) (hmh : m ≠ none → h ≠ none) (hz : sliceOf size x l h m = some z) :
    ∃ r, (Instr.sliceAt t u lo hi mx).run P w = .ok r w ∧ VRel nb ι z r := by
  have key : ∀ (a : Option Addr) (len cap : Nat), l.getD 0 ≤ h.getD len → h.getD len ≤ m.getD cap → m.getD cap ≤ cap →
      (Instr.sliceAt t (.slice a len cap) lo hi mx).run P w = .ok (.slice (if m.getD cap = l.getD 0 then a else a.map (·.add (l.getD 0 * size))) (h.getD len - l.getD 0) (m.getD cap - l.getD 0)) w := by
    intro a len cap h1 h2 h3
    have hb := run_bounds (P := P) (w := w) hl hh hm hmh true h1 h2 h3
    simp [Instr.sliceAt, Instr.slice, run_underlying ht, hb, run_sizeOf hs]
  unfold sliceOf at hz
  split at hz
  · split at hz <;> simp only [Option.some.injEq, reduceCtorEq] at hz
    subst hz
    rename_i e1 e2 e3
    simp only [VRel] at hx
    subst hx
    refine ⟨_, key none 0 0 (by omega) (by omega) (by omega), ?_⟩
    simp only [VRel, e1, e2, e3]
    simp
  · split at hz <;> simp only [Option.some.injEq, reduceCtorEq] at hz
    subst hz
    rename_i e1 e2 e3
    simp only [VRel] at hx
    obtain ⟨a, cap, rfl⟩ := hx
    have e4 : m.getD cap ≤ cap := by
      cases m with
      | none => simp
      | some m => simp at e3 ⊢; omega
    refine ⟨_, key (some a) 0 cap (by omega) (by omega) e4, ?_⟩
    simp only [VRel, e1, e2]
    split
    · exact ⟨a, _, rfl⟩
    · exact ⟨_, _, rfl⟩
  · rename_i p o n c
    simp only [VRel] at hx
    obtain ⟨q, cap, hq, rfl, hn, hc⟩ := hx
    simp only [] at hz
    split at hz
    case isFalse => cases hz
    rename_i hb
    obtain ⟨b1, b2, b3⟩ := hb
    have hcn : capOf c n ≤ cap := by
      cases c with
      | fix c e0 => simp only [capRel] at hc; simp only [capOf]; omega
      | gro es => simp only [capOf]; exact hn
    split at hz
    · rename_i es
      simp only [capOf, Option.getD_none] at b2 b3 hcn
      simp only [capRel] at hc
      have hk := key (some ⟨q.blk, q.off + o, none⟩) n cap b1 (by simp; omega) (by simp)
      simp only [Option.getD_none] at hk
      refine ⟨_, hk, ?_⟩
      split at hz
      · rename_i hlh
        simp only [Option.some.injEq] at hz
        subst hz
        simp only [VRel]
        have hmul : cap * size = l.getD 0 * size + (cap - l.getD 0) * size := by rw [← Nat.add_mul]; congr 1; omega
        refine ⟨q, cap - l.getD 0, hq, ?_, by omega, ?_⟩
        · congr 1
          split
          · have : l.getD 0 = 0 := by omega
            simp [this]
          · simp [Addr.add_mid, Nat.add_assoc]
        · simp only [capRel]
          split
          · rename_i he
            subst he
            rcases hc with hc | hc
            · exact .inl hc
            · right; omega
          · exact .inl rfl
      · rename_i hlh
        simp only [Option.some.injEq] at hz
        subst hz
        simp only [VRel]
        have h0 : h.getD n - l.getD 0 = 0 := by omega
        rw [h0]
        split
        · exact ⟨_, _, rfl⟩
        · exact ⟨_, _, rfl⟩
    · simp only [Option.some.injEq] at hz
      subst hz
      have hmc : m.getD (capOf c n) = m.getD cap := by
        cases m with
        | some m => rfl
        | none =>
          cases c with
          | fix c e0 => simp only [capRel] at hc; simp [capOf, hc]
          | gro es => rename_i hno; exact (hno es rfl rfl).elim
      rw [hmc] at b2 b3 ⊢
      have hk := key (some ⟨q.blk, q.off + o, none⟩) n cap b1 b2 (by omega)
      refine ⟨_, hk, ?_⟩
      simp only [VRel]
      refine ⟨q, m.getD cap - l.getD 0, hq, ?_, by omega, by simp only [capRel]⟩
      congr 1
      split
      · rfl
      · simp [Addr.add_mid, Nat.add_assoc]
  · -- content
    rename_i es n f cs
    simp only [] at hz
    split at hz
    case isFalse => cases hz
    rename_i hb
    obtain ⟨b1, b2, b3, b4⟩ := hb
    simp only [Option.some.injEq] at hz
    subst hz
    simp only [VRel] at hx
    obtain ⟨h0, a0, cap, rfl, g1, g2, g3, g4⟩ := hx
    have hmn : ∀ m0, m = some m0 → m.getD cap = m0 ∧ m.getD n = m0 := fun m0 e => by subst e; exact ⟨rfl, rfl⟩
    have hm1 : h.getD n ≤ m.getD cap ∧ m.getD cap ≤ cap := by
      cases m with
      | none => simp only [Option.getD_none] at b2 b3 ⊢; omega
      | some m0 => simp only [Option.getD_some] at b2 b3 ⊢; omega
    refine ⟨_, key a0 n cap b1 hm1.1 hm1.2, ?_⟩
    have hle : h.getD n ≤ n := by omega
    simp only [VRel]
    have hmul : (h.getD n - l.getD 0) * es ≤ n * es - l.getD 0 * es := by rw [← Nat.sub_mul]; exact Nat.mul_le_mul_right _ (by omega)
    refine ⟨by rw [List.length_take, List.length_drop, h0]; omega, _, _, rfl, by omega, ?_, ?_, fun hn => ?_⟩
    · intro hf
      cases f with
      | true =>
        simp only [cond_true] at hf
        have hf' := Nat.eq_of_beq_eq_true hf
        have := g2 rfl
        subst this
        rw [hf']
      | false =>
        simp only [cond_false] at hf
        cases m with
        | none => cases hf
        | some m0 =>
          have hf' := Nat.eq_of_beq_eq_true hf
          simp only [Option.getD_some]
          rw [hf']
    · intro ha
      have : a0 = none := by
        split at ha
        · exact ha
        · cases a0 with
          | none => rfl
          | some q => simp at ha
      have := g3 this
      omega
    · have hn0 : n ≠ 0 := by omega
      have hes : es = size := b4.resolve_right hn0
      subst hes
      obtain ⟨b, o, vs, rfl, k1, c0, k2, k3⟩ := g4 hn0
      refine ⟨b, o + l.getD 0 * es, (vs.drop (l.getD 0 * es)).take ((h.getD n - l.getD 0) * es), ?_, (k1.drop _).take _, c0, k2, fun i v hv => ?_⟩
      · rw [if_neg (by omega)]
        simp [Addr.add_mid]
      · have hi : i < (h.getD n - l.getD 0) * es := by
          have := (List.getElem?_eq_some_iff.1 hv).1
          rw [List.length_take] at this
          omega
        rw [List.getElem?_take_of_lt hi, List.getElem?_drop] at hv
        rw [Nat.add_assoc]
        exact k3 _ v hv
  · cases hz

/-! ### All together -/

theorem optNat_sound (hg : P.globals.size ≤ nb) (hf : FRel nb ι fr a.tmps) {x : Option Operand} {y : Option SX} {n : Option Nat} (h : slimXo P nt x = some y) (hn : optNat fr y = some n) : BRel n (x.map a.eval) := by
  cases x with
  | none => simp only [slimXo, Option.some.injEq] at h; subst h; simp only [optNat, Option.some.injEq] at hn; subst hn; rfl
  | some x =>
    simp only [slimXo, Option.map_eq_some_iff] at h
    obtain ⟨z, hz, rfl⟩ := h
    simp only [optNat, Option.map_eq_some_iff] at hn
    obtain ⟨k, hk, rfl⟩ := hn
    obtain ⟨q, hq⟩ := (slimX_sound hg hf hz).asNat hk
    exact ⟨q, by simp [hq]⟩

theorem slimXo_none {x : Option Operand} {y : Option SX} (h : slimXo P nt x = some y) : (x = none ↔ y = none) := by
  cases x with
  | none => simp only [slimXo, Option.some.injEq] at h; subst h; simp
  | some x =>
    simp only [slimXo, Option.map_eq_some_iff] at h
    obtain ⟨z, hz, rfl⟩ := h
    simp

theorem optNat_none {y : Option SX} {n : Option Nat} (h : optNat fr y = some n) : (y = none ↔ n = none) := by
  cases y with
  | none => simp only [optNat, Option.some.injEq] at h; subst h; simp
  | some x =>
    simp only [optNat, Option.map_eq_some_iff] at h
    obtain ⟨z, hz, rfl⟩ := h
    simp

theorem bytesOf_sound : ∀ {cs : List AV} {s : List Nat} {vs : List Value}, bytesOf cs = some s → VRels nb ι cs vs → ∃ l : List UInt8, vs = l.map (fun b => Value.int .u8 (b.toNat : Int)) ∧ l.map (·.toNat) = s
  | [], s, vs, h, hv => by
    simp only [bytesOf, Option.some.injEq] at h; subst h
    simp only [VRels] at hv; subst hv
    exact ⟨[], rfl, rfl⟩
  | x :: cs, s, vs, h, hv => by
    unfold bytesOf at h
    split at h
    · rename_i e; cases e
    · rename_i n vs' e
      simp only [List.cons.injEq] at e
      obtain ⟨rfl, rfl⟩ := e
      split at h
      case isFalse => cases h
      rename_i hn
      simp only [Option.map_eq_some_iff] at h
      obtain ⟨s', hs', rfl⟩ := h
      simp only [VRels] at hv
      obtain ⟨y, ys, rfl, hy, hys⟩ := hv
      simp only [VRel] at hy
      subst hy
      obtain ⟨l, rfl, hl⟩ := bytesOf_sound hs' hys
      have hm : (UInt8.ofNat n).toNat = n := by simp [Nat.mod_eq_of_lt hn]
      exact ⟨UInt8.ofNat n :: l, by simp only [List.map_cons, hm]; rfl, by simp only [List.map_cons, hm, hl]⟩
    · cases h

theorem bytesStr_sound (r : Rel nb ι H w) {src dst e : TypeId} {x z : AV} {u : Value} (hs : P.underlying src = some (.slice e)) (he : P.underlying e = some (.int .u8)) (hd : P.underlying dst = some .string)
    (hx : VRel nb ι x u) (h : strOfBytes H x = some z) : ∃ v, (convert src dst u).run P w = .ok v w ∧ VRel nb ι z v := by
  unfold strOfBytes at h
  cases x <;> simp only [Option.some.injEq, reduceCtorEq] at h
  case nils =>
    subst h
    simp only [VRel] at hx; subst hx
    exact ⟨.string .empty, by rw [run_convert_bytes_string w src dst e none 0 0 hs he hd]; rfl, by simp only [VRel]; exact ⟨_, rfl, rfl⟩⟩
  case emp =>
    subst h
    simp only [VRel] at hx
    obtain ⟨a, cap, rfl⟩ := hx
    refine ⟨.string .empty, ?_, by simp only [VRel]; exact ⟨_, rfl, rfl⟩⟩
    rw [run_convert_bytes_string w src dst e (some a) 0 cap hs he hd, run_bytesToString w a 0 cap [] (by simp [loadCells, loadCellsFrom])]
    rfl
  case slice p o n c =>
    simp only [Option.bind_eq_some_iff, Option.map_eq_some_iff] at h
    obtain ⟨cs, hc, s, hs', rfl⟩ := h
    simp only [VRel] at hx
    obtain ⟨l, cap, hl, rfl, hn, _⟩ := hx
    obtain ⟨_, vs, hvl, hrange, hvs⟩ := ldn_sound r hl hc
    obtain ⟨bs, rfl, hbs⟩ := bytesOf_sound hs' hvs
    have hld : (loadCells ⟨l.blk, l.off + o, none⟩ n).run P w = .ok ((bs.map fun b => (b.toNat : Int)).map (Value.int .u8)).toArray w := by
      have := run_loadCells_list (P := P) w ⟨l.blk, l.off + o, none⟩ (bs.map fun b => Value.int .u8 (b.toNat : Int)) (fun j v hv => by rw [Addr.add_mid]; exact hrange j v hv)
      rw [hvl] at this
      rw [this, List.map_map]
      rfl
    refine ⟨_, by rw [run_convert_bytes_string w src dst e _ n cap hs he hd, run_bytesToString w _ n cap _ hld], ?_⟩
    simp only [VRel]
    refine ⟨_, rfl, ?_⟩
    rw [foldl_push_byteCells]
    unfold bytesRel
    simp [hbs]
  case lst es n f cs =>
    split at h
    case isFalse => cases h
    rename_i hes
    simp only [Option.map_eq_some_iff] at h
    obtain ⟨s, hs', rfl⟩ := h
    simp only [VRel] at hx
    obtain ⟨h0, a0, cap, rfl, g1, g2, g3, g4⟩ := hx
    by_cases hn : n = 0
    · subst hn
      simp only [Nat.zero_mul] at h0
      obtain rfl := List.eq_nil_of_length_eq_zero h0
      simp only [bytesOf, Option.some.injEq] at hs'
      subst hs'
      cases a0 with
      | none =>
        obtain rfl := g3 rfl
        exact ⟨.string .empty, by rw [run_convert_bytes_string w src dst e none 0 0 hs he hd]; rfl, by simp only [VRel]; exact ⟨_, rfl, rfl⟩⟩
      | some a =>
        refine ⟨.string .empty, ?_, by simp only [VRel]; exact ⟨_, rfl, rfl⟩⟩
        rw [run_convert_bytes_string w src dst e (some a) 0 cap hs he hd, run_bytesToString w a 0 cap [] (by simp [loadCells, loadCellsFrom])]
        rfl
    · obtain rfl := hes.resolve_right hn
      obtain ⟨b, o, vs, rfl, k1, c0, k2, k3⟩ := g4 hn
      obtain ⟨bs, rfl, hbs⟩ := bytesOf_sound hs' k1
      have hvl : bs.length = n := by
        have := k1.length
        simp at this
        omega
      have hld : (loadCells ⟨b, o, none⟩ n).run P w = .ok ((bs.map fun b => (b.toNat : Int)).map (Value.int .u8)).toArray w := by
        have := run_loadCells_list (P := P) w ⟨b, o, none⟩ (bs.map fun b => Value.int .u8 (b.toNat : Int)) (fun j v hv => by rw [Addr.add_mid]; exact r.held ⟨c0, k2, k3⟩ j v hv)
        rw [List.length_map, hvl] at this
        rw [this, List.map_map]
        rfl
      refine ⟨_, by rw [run_convert_bytes_string w src dst e _ n cap hs he hd, run_bytesToString w _ n cap _ hld], ?_⟩
      simp only [VRel]
      refine ⟨_, rfl, ?_⟩
      rw [foldl_push_byteCells]
      unfold bytesRel
      simp [hbs]

end Go.Lite
