/-
  Each operation that leaves the heap alone comes, in the model, to what the interpreter says: comparisons, slices, and all together.
-/
import Derived.Test.YtibjdfajafilhaaLOpsB
import Derived.Laws.StructEq
import Derived.Laws.BytesString
import Derived.Laws.IdiomStrings
namespace Go.Lite
open Go
set_option linter.unusedSimpArgs false
set_option linter.unusedVariables false

variable {P : Program} {nb : NB} {ι : Emb} {H : Heap} {w : World} {fr : Fr} {a : Act} {nt : Nat}

/-! ### Comparisons -/

theorem run_part1 {t : TypeId} {q : Nat} {xs : Array Value} {o : Nat} {v : Value} (ht : scalarT P t = some q) (hv : xs[o]? = some v) : (part t xs o).run P w = .ok v w := by
  unfold scalarT at ht
  split at ht
  · rename_i hu; simp [part, isAgg, run_underlying hu, hv]
  · rename_i hu; simp [part, isAgg, run_underlying hu, hv]
  · rename_i hu; simp [part, isAgg, run_underlying hu, hv]
  · cases ht

theorem eq1_sound {d : Nat} {t : TypeId} {q : Nat} {x y : AV} {u v : Value} {b : Bool} (ht : scalarT P t = some q) (hx : VRel nb ι x u) (hy : VRel nb ι y v) (h : eq1 q x y = some b) :
    (Op.equalIn (d + 1) t u v).run P w = .ok b w := by
  unfold scalarT at ht
  unfold eq1 at h
  split at h
  · split at ht <;> first | cases ht | skip
    rename_i hu
    simp only [VRel] at hx hy
    subst hx; subst hy
    simp only [Option.some.injEq] at h; subst h
    exact run_equalIn_bool' w d t _ _ hu
  · split at ht <;> first | cases ht | skip
    rename_i hu
    simp only [VRel] at hx hy
    subst hx; subst hy
    split at h <;> simp only [Option.some.injEq, reduceCtorEq] at h
    rename_i hk
    subst hk; subst h
    exact run_equalIn_int w d t _ _ _ _ hu
  · split at ht <;> first | cases ht | skip
    rename_i hu
    simp only [VRel] at hx hy
    obtain ⟨b1, rfl, h1⟩ := hx
    obtain ⟨b2, rfl, h2⟩ := hy
    simp only [Option.some.injEq] at h; subst h
    rw [run_equalIn_string w d t _ _ hu, beq_bytes h1 h2]
  · cases h

theorem eqFields_sound {d : Nat} {xs ys : List AV} {us vs : Array Value} (hx : VRels nb ι xs us.toList) (hy : VRels nb ι ys vs.toList) :
    ∀ {fs : List Field} {qs : List (Nat × Nat)} {b : Bool}, eqFieldsT P fs = some qs → eqMany qs xs ys = some b → (Op.eqFields (d + 1) us vs fs).run P w = .ok b w
  | [], qs, b, hf, h => by
    simp only [eqFieldsT, Option.some.injEq] at hf
    subst hf
    simp only [eqMany, Option.some.injEq] at h
    subst h
    rfl
  | f :: fs, qs, b, hf, h => by
    simp only [eqFieldsT] at hf
    split at hf
    case isFalse => cases hf
    rename_i hn
    simp only [Option.bind_eq_some_iff, Option.map_eq_some_iff] at hf
    obtain ⟨q, hq, rs, hr, rfl⟩ := hf
    simp only [eqMany, Option.bind_eq_some_iff, Option.map_eq_some_iff] at h
    obtain ⟨x, hxo, y, hyo, b1, h1, b2, h2, rfl⟩ := h
    obtain ⟨u, hu, hxu⟩ := hx.get _ _ hxo
    obtain ⟨v, hv, hyv⟩ := hy.get _ _ hyo
    have e1 := eq1_sound (P := P) (w := w) (d := d) hq hxu hyv h1
    have e2 := eqFields_sound (d := d) hx hy hr h2
    simp only [Op.eqFields, hn, ne_eq, not_false_eq_true, if_true, Sem.run_bind, run_part1 hq (by simpa using hu), run_part1 hq (by simpa using hv), Result.andThen_ok, e1, Sem.run_ite]
    cases b1
    · simp
    · simp [e2]

theorem one_deep {t : TypeId} {u v : Value} {b : Bool} (h : ∀ d, (Op.equalIn (d + 1) t u v).run P w = .ok b w) : (Op.equal t u v).run P w = .ok b w := h 9999

/-- what a type's '==' tells of the type -/
def EqT.says (P : Program) (t : TypeId) : EqT → Prop
  | .none => True
  | .bool => P.underlying t = some .bool
  | .ptr => ∃ e, P.underlying t = some (.pointer e)
  | .slc => ∃ e, P.underlying t = some (.slice e)
  | .fn => ∃ x y z, P.underlying t = some (.func x y z)
  | .many qs => (∃ fs, P.underlying t = some (.struct fs) ∧ P.stoodInHeld t = false ∧ P.eqGuardType P.depth t = false ∧ eqFieldsT P fs.toList = some qs) ∨
    (∃ e q i, P.underlying t = some (.array 1 e) ∧ sizeT P e = some i ∧ scalarT P e = some q ∧ P.eqGuardType P.depth t = false ∧ qs = [(0, q)])

theorem eqT_says {t : TypeId} {e : EqT} (h : eqT P t = some e) : e.says P t := by
  unfold eqT at h
  split at h
  all_goals first
    | (cases h; done)
    | (rename_i hu
       simp only [Option.some.injEq] at h
       subst h
       first
         | exact hu
         | exact ⟨_, hu⟩
         | exact ⟨_, _, _, hu⟩
         | trivial)
    | skip
  · rename_i fs hu
    cases hc : (!P.stoodInHeld t && !P.eqGuardType P.depth t) with
    | false => rw [hc] at h; cases h
    | true =>
      rw [hc] at h
      simp only [cond_true, Option.map_eq_some_iff] at h
      obtain ⟨qs, hq, rfl⟩ := h
      simp only [Bool.and_eq_true, Bool.not_eq_true'] at hc
      exact .inl ⟨fs, hu, hc.1, hc.2, hq⟩
  · rename_i el hu
    cases hc : (!P.eqGuardType P.depth t && (sizeT P el).isSome) with
    | false => rw [hc] at h; cases h
    | true =>
      rw [hc] at h
      simp only [cond_true, Option.map_eq_some_iff] at h
      obtain ⟨q, hq, rfl⟩ := h
      simp only [Bool.and_eq_true, Bool.not_eq_true'] at hc
      obtain ⟨i, hi⟩ := Option.isSome_iff_exists.1 hc.2
      exact .inr ⟨el, q, i, hu, hi, hq, hc.1, rfl⟩

/-- what goes with a comparison: that no guard is met -/
def Plainly (P : Program) (t : TypeId) (u v : Value) : Prop :=
  (∀ xs ys, u = .agg xs → v = .agg ys → P.eqGuardType P.depth t = false) ∧ ¬ (u = .nilIface ∧ v = .nilIface) ∧ (∀ k n, u ≠ .int k n) ∧ (∀ s, u ≠ .string s) ∧ (∀ k n, u ≠ .float k n) ∧ (∀ k n m, u ≠ .complex k n m)

theorem eqv_sound {t : TypeId} {e : EqT} {x y : AV} {u v : Value} {b : Bool} (ht : eqT P t = some e) (hx : VRel nb ι x u) (hy : VRel nb ι y v) (h : eqv e x y = some b) :
    (Op.equal t u v).run P w = .ok b w ∧ Plainly P t u v := by
  have hs := eqT_says ht
  clear ht
  unfold eqv at h
  split at h
  case h_1 qs xs ys =>
    simp only [VRel] at hx hy
    obtain ⟨us, rfl, hus⟩ := hx
    obtain ⟨vs, rfl, hvs⟩ := hy
    rcases hs with ⟨fs, hu, h1, h2, hq⟩ | ⟨el, q, inf, hu, hi, hq, h2, rfl⟩
    case inr =>
      refine ⟨?_, fun _ _ _ _ => h2, by simp, by simp, by simp, by simp, by simp⟩
      refine (show ∀ d, (Op.equalIn (d + 1 + 1) t (.agg us) (.agg vs)).run P w = .ok b w from fun d => ?_) 9998
      simp only [eqMany, Option.bind_eq_some_iff, Option.map_eq_some_iff] at h
      obtain ⟨x, hxo, y, hyo, b1, h3, b2, h4, rfl⟩ := h
      simp only [Option.some.injEq] at h4
      subst h4
      obtain ⟨u, hu1, hxu⟩ := hus.get _ _ hxo
      obtain ⟨v, hv1, hyv⟩ := hvs.get _ _ hyo
      have e1 := eq1_sound (P := P) (w := w) (d := d) hq hxu hyv h3
      have p1 := run_part1 (P := P) (w := w) hq (xs := us) (o := 0) (v := u) (by simpa using hu1)
      have p2 := run_part1 (P := P) (w := w) hq (xs := vs) (o := 0) (v := v) (by simpa using hv1)
      have hr : (List.range' 0 1 1) = [0] := rfl
      rw [Op.equalIn]
      simp only [run_underlying hu, Sem.run_bind, run_sizeOf hi, Result.andThen_ok]
      cases b1 <;> simp [Std.Legacy.Range.forIn_eq_forIn_range', Std.Legacy.Range.size, hr, p1, p2, e1]
    have hfo : P.fieldsOf t = fs := by simp only [Program.fieldsOf, hu]
    refine ⟨?_, fun _ _ _ _ => h2, by simp, by simp, by simp, by simp, by simp⟩
    show (Op.equalIn (9999 + 1) t _ _).run P w = _
    rw [run_equalIn_struct w 9999 t us vs (by rw [hfo]; exact hu) h1, hfo]
    exact eqFields_sound (d := 9998) hus hvs hq h
  case h_2 =>
    simp only [EqT.says] at hs
    simp only [VRel] at hx hy
    subst hx; subst hy
    simp only [Option.some.injEq] at h; subst h
    exact ⟨one_deep fun d => by simp [Op.equalIn, run_underlying hs], by simp, by simp, by simp, by simp, by simp, by simp⟩
  case h_3 =>
    obtain ⟨_, hu⟩ := hs
    simp only [VRel] at hx hy
    subst hx
    subst hy
    simp only [Option.some.injEq] at h; subst h
    exact ⟨one_deep fun d => by simp [Op.equalIn, run_underlying hu], by simp, by simp, by simp, by simp, by simp, by simp⟩
  case h_4 =>
    obtain ⟨_, hu⟩ := hs
    simp only [VRel] at hx hy
    subst hx
    obtain ⟨l, e1, rfl⟩ := hy
    simp only [Option.some.injEq] at h; subst h
    exact ⟨one_deep fun d => by simp [Op.equalIn, run_underlying hu], by simp, by simp, by simp, by simp, by simp, by simp⟩
  case h_5 =>
    obtain ⟨_, hu⟩ := hs
    simp only [VRel] at hx hy
    obtain ⟨l, e1, rfl⟩ := hx
    subst hy
    simp only [Option.some.injEq] at h; subst h
    exact ⟨one_deep fun d => by simp [Op.equalIn, run_underlying hu], by simp, by simp, by simp, by simp, by simp, by simp⟩
  case h_6 =>
    obtain ⟨_, hu⟩ := hs
    simp only [VRel] at hx hy
    subst hx
    subst hy
    simp only [Option.some.injEq] at h; subst h
    exact ⟨one_deep fun d => by simp [Op.equalIn, run_underlying hu], by simp, by simp, by simp, by simp, by simp, by simp⟩
  case h_7 =>
    obtain ⟨_, hu⟩ := hs
    simp only [VRel] at hx hy
    subst hx
    obtain ⟨l, c, e1, rfl, e2, e3⟩ := hy
    simp only [Option.some.injEq] at h; subst h
    exact ⟨one_deep fun d => by simp [Op.equalIn, run_underlying hu], by simp, by simp, by simp, by simp, by simp, by simp⟩
  case h_8 =>
    obtain ⟨_, hu⟩ := hs
    simp only [VRel] at hx hy
    obtain ⟨l, c, e1, rfl, e2, e3⟩ := hx
    subst hy
    simp only [Option.some.injEq] at h; subst h
    exact ⟨one_deep fun d => by simp [Op.equalIn, run_underlying hu], by simp, by simp, by simp, by simp, by simp, by simp⟩
  case h_9 =>
    obtain ⟨_, hu⟩ := hs
    simp only [VRel] at hx hy
    subst hx
    obtain ⟨l, c, rfl⟩ := hy
    simp only [Option.some.injEq] at h; subst h
    exact ⟨one_deep fun d => by simp [Op.equalIn, run_underlying hu], by simp, by simp, by simp, by simp, by simp, by simp⟩
  case h_10 =>
    obtain ⟨_, hu⟩ := hs
    simp only [VRel] at hx hy
    obtain ⟨l, c, rfl⟩ := hx
    subst hy
    simp only [Option.some.injEq] at h; subst h
    exact ⟨one_deep fun d => by simp [Op.equalIn, run_underlying hu], by simp, by simp, by simp, by simp, by simp, by simp⟩
  case h_11 =>
    obtain ⟨_, hu⟩ := hs
    simp only [VRel] at hx hy
    subst hx
    obtain ⟨_, a0, cap, rfl, g1, _, g3, _⟩ := hy
    obtain ⟨q, rfl⟩ : ∃ q, a0 = some q := by
      cases a0 with
      | none => have := g3 rfl; omega
      | some q => exact ⟨q, rfl⟩
    simp only [Option.some.injEq] at h; subst h
    exact ⟨one_deep fun d => by simp [Op.equalIn, run_underlying hu], by simp, by simp, by simp, by simp, by simp, by simp⟩
  case h_12 =>
    obtain ⟨_, hu⟩ := hs
    simp only [VRel] at hx hy
    subst hy
    obtain ⟨_, a0, cap, rfl, g1, _, g3, _⟩ := hx
    obtain ⟨q, rfl⟩ : ∃ q, a0 = some q := by
      cases a0 with
      | none => have := g3 rfl; omega
      | some q => exact ⟨q, rfl⟩
    simp only [Option.some.injEq] at h; subst h
    exact ⟨one_deep fun d => by simp [Op.equalIn, run_underlying hu], by simp, by simp, by simp, by simp, by simp, by simp⟩
  case h_13 =>
    obtain ⟨_, _, _, hu⟩ := hs
    simp only [VRel] at hx hy
    subst hx
    subst hy
    simp only [Option.some.injEq] at h; subst h
    exact ⟨one_deep fun d => by simp [Op.equalIn, run_underlying hu], by simp, by simp, by simp, by simp, by simp, by simp⟩
  case h_14 =>
    obtain ⟨_, _, _, hu⟩ := hs
    simp only [VRel] at hx hy
    subst hx
    obtain ⟨l, rfl, e1⟩ := hy
    simp only [Option.some.injEq] at h; subst h
    exact ⟨one_deep fun d => by simp [Op.equalIn, run_underlying hu], by simp, by simp, by simp, by simp, by simp, by simp⟩
  case h_15 =>
    obtain ⟨_, _, _, hu⟩ := hs
    simp only [VRel] at hx hy
    obtain ⟨l, rfl, e1⟩ := hx
    subst hy
    simp only [Option.some.injEq] at h; subst h
    exact ⟨one_deep fun d => by simp [Op.equalIn, run_underlying hu], by simp, by simp, by simp, by simp, by simp, by simp⟩
  all_goals cases h

end Go.Lite
