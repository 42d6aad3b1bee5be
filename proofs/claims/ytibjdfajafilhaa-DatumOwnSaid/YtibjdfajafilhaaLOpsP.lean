/-
  Each operation that leaves the heap alone comes, in the model, to what the interpreter says.
-/
import Derived.Test.YtibjdfajafilhaaLCanon
import Derived.Test.YtibjdfajafilhaaLSlim
import Derived.Deep.AppendSrc
import Derived.Deep.MidRow
import Derived.Lib.Strings
namespace Go.Lite
open Go
set_option linter.unusedSimpArgs false
set_option linter.unusedVariables false

variable {P : Program} {nb : NB} {ι : Emb} {H : Heap} {w : World}

theorem absFlat_sound {v : Value} {x : AV} (h : absFlat v = some x) : VRel nb ι x v := by
  unfold absFlat at h
  split at h <;> simp at h <;> subst h <;> simp [VRel, bytesRel]

theorem absFlats_sound : ∀ {vs : List Value} {xs : List AV}, absFlats vs = some xs → VRels nb ι xs vs
  | [], xs, h => by simp [absFlats] at h; subst h; simp [VRels]
  | v :: vs, xs, h => by
    simp only [absFlats, Option.bind_eq_some_iff, Option.map_eq_some_iff] at h
    obtain ⟨x, hx, ys, hy, rfl⟩ := h
    simp only [VRels]
    exact ⟨v, vs, rfl, absFlat_sound hx, absFlats_sound hy⟩

theorem absC_sound {v : Value} {x : AV} (h : absC v = some x) : VRel nb ι x v := by
  unfold absC at h
  split at h
  · simp only [Option.map_eq_some_iff] at h
    obtain ⟨xs, hx, rfl⟩ := h
    simp only [VRel]; exact ⟨_, rfl, absFlats_sound hx⟩
  · simp only [Option.map_eq_some_iff] at h
    obtain ⟨xs, hx, rfl⟩ := h
    simp only [VRel]; exact ⟨_, rfl, absFlats_sound hx⟩
  · simp only [Option.map_eq_some_iff] at h
    obtain ⟨xs, hx, rfl⟩ := h
    simp only [VRel]; exact ⟨_, rfl, absFlat_sound hx⟩
  · exact absFlat_sound h

variable {fr : Fr} {a : Act} {nt : Nat}

theorem slimX_sound (hg : P.globals.size ≤ nb) (hf : FRel nb ι fr a.tmps) {x : Operand} {y : SX} (h : slimX P nt x = some y) : VRel nb ι (y.ev fr) (a.eval x) := by
  unfold slimX at h
  split at h
  · split at h <;> simp at h
    subst h; exact hf _
  · simp only [Option.map_eq_some_iff] at h
    obtain ⟨z, hz, rfl⟩ := h
    exact absC_sound hz
  · split at h <;> simp at h
    subst h
    rename_i hlt
    simp only [SX.ev, VRel, locOf, Act.eval]
    exact ⟨⟨_, 0, 0⟩, ⟨by omega, rfl⟩, rfl⟩
  · simp at h; subst h
    simp only [SX.ev, VRel, Act.eval]
    exact ⟨#[], rfl, by simp [VRels]⟩

theorem slimXs_sound (hg : P.globals.size ≤ nb) (hf : FRel nb ι fr a.tmps) : ∀ {xs : List Operand} {ys : List SX}, slimXs P nt xs = some ys → VRels nb ι (ys.map (·.ev fr)) (xs.map a.eval)
  | [], ys, h => by simp [slimXs] at h; subst h; simp [VRels]
  | x :: xs, ys, h => by
    simp only [slimXs, Option.bind_eq_some_iff, Option.map_eq_some_iff] at h
    obtain ⟨y, hy, zs, hz, rfl⟩ := h
    simp only [List.map_cons, VRels]
    exact ⟨_, _, rfl, slimX_sound hg hf hy, slimXs_sound hg hf hz⟩

/-! ### Inversions -/

theorem VRel.asPtr {x : AV} {v : Value} {q : Blk × Nat} (h : VRel nb ι x v) (e : x.asPtr = some q) : ∃ l, locOf nb ι q.1 l ∧ v = .pointer (some ⟨l.blk, l.off + q.2, none⟩) := by
  cases x <;> simp [AV.asPtr] at e
  subst e; simpa [VRel] using h

theorem VRel.asBool {x : AV} {v : Value} {b : Bool} (h : VRel nb ι x v) (e : x.asBool = some b) : v = .bool b := by
  cases x <;> simp [AV.asBool] at e
  subst e; simpa [VRel] using h

theorem VRel.asStr {x : AV} {v : Value} {s : List Nat} (h : VRel nb ι x v) (e : x.asStr = some s) : ∃ b, v = .string b ∧ bytesRel s b := by
  cases x <;> simp [AV.asStr] at e
  subst e; simpa [VRel] using h

theorem VRel.asNat {x : AV} {v : Value} {n : Nat} (h : VRel nb ι x v) (e : x.asNat = some n) : ∃ k, v = .int k (n : Int) := by
  cases x with
  | int k m =>
    simp only [AV.asNat] at e
    split at e <;> simp at e
    subst e
    simp only [VRel] at h
    exact ⟨k, by rw [h, Int.toNat_of_nonneg ‹_›]⟩
  | _ => simp [AV.asNat] at e

/-! ### Memory that is read -/

theorem base_row (r : Rel nb ι H w) {p : Blk} {l : Loc} {cs : List AV} (hl : locOf nb ι p l) (hc : H.cells p = some cs) :
    ∀ i x, cs[i]? = some x → ∃ v, w.cell? ⟨l.blk, l.off + i, none⟩ = some v ∧ VRel nb ι x v := by
  cases p with
  | old b =>
    simp only [locOf] at hl
    obtain ⟨_, rfl⟩ := hl
    intro i x hx
    obtain ⟨v, hv, hr⟩ := (r.old b cs hc).2 i x hx
    exact ⟨v, by simpa using hv, VRel.mono ι.bare_le x v hr⟩
  | new k =>
    simp only [Heap.cells, Option.bind_eq_some_iff] at hc
    obtain ⟨o, ho, hc⟩ := hc
    cases o with
    | row cs' es fz =>
      simp only [Obj.cells, Option.some.injEq] at hc
      subst hc
      exact (r.row k l _ es fz _ hl ho).1
    | iter s pos => simp [Obj.cells] at hc
  | val ds =>
    simp only [Heap.cells, Option.some.injEq] at hc
    subst hc
    simp only [locOf] at hl
    obtain ⟨vs, hvs, hold⟩ := hl
    intro i x hx
    obtain ⟨v, hv, hr⟩ := hvs.get i x hx
    exact ⟨v, r.held hold i v hv, VRel.mono ι.bare_le x v hr⟩

theorem ld1_sound (r : Rel nb ι H w) {p : Blk} {o : Nat} {l : Loc} {x : AV} (hl : locOf nb ι p l) (h : H.ld1 p o = some x) :
    ∃ v, w.cell? ⟨l.blk, l.off + o, none⟩ = some v ∧ VRel nb ι x v := by
  simp only [Heap.ld1, Option.bind_eq_some_iff] at h
  obtain ⟨cs, hc, hx⟩ := h
  exact base_row r hl hc o x hx

theorem ldn_sound (r : Rel nb ι H w) {p : Blk} {o n : Nat} {l : Loc} {xs : List AV} (hl : locOf nb ι p l) (h : H.ldn p o n = some xs) :
    xs.length = n ∧ ∃ vs : List Value, vs.length = n ∧ w.rangeAt l.blk (l.off + o) vs ∧ VRels nb ι xs vs := by
  simp only [Heap.ldn, Option.bind_eq_some_iff] at h
  obtain ⟨cs, hc, h⟩ := h
  split at h <;> simp only [Option.some.injEq, reduceCtorEq] at h
  rename_i hn
  subst h
  refine ⟨hn, (List.range n).map fun j => (w.cell? ⟨l.blk, l.off + o + j, none⟩).getD undef, by simp, ?_, ?_⟩
  · intro j v hv
    have hjn : j < n := by
      rcases Nat.lt_or_ge j n with h | h
      · exact h
      · rw [List.getElem?_eq_none (by simpa using h)] at hv; simp at hv
    simp only [List.getElem?_map, List.getElem?_range hjn, Option.map_some, Option.some.injEq] at hv
    have hx : ∃ x, cs[o + j]? = some x := by
      have hlen : (List.take n (List.drop o cs))[j]? = some ((List.take n (List.drop o cs))[j]'(by omega)) := List.getElem?_eq_getElem _
      rw [List.getElem?_take_of_lt hjn, List.getElem?_drop] at hlen
      exact ⟨_, hlen⟩
    obtain ⟨x, hx⟩ := hx
    obtain ⟨u, hu, _⟩ := base_row r hl hc _ x hx
    rw [← Nat.add_assoc] at hu
    rw [hu] at hv ⊢
    simpa using hv
  · refine VRels.of_get (by simp [hn]) fun i x v hx hv => ?_
    have hin : i < n := by
      rcases Nat.lt_or_ge i n with h | h
      · exact h
      · rw [List.getElem?_eq_none (by simp; omega)] at hv; simp at hv
    rw [List.getElem?_take_of_lt hin, List.getElem?_drop] at hx
    obtain ⟨u, hu, hr⟩ := base_row r hl hc _ x hx
    simp only [List.getElem?_map, List.getElem?_range hin, Option.map_some, Option.some.injEq] at hv
    rw [← Nat.add_assoc] at hu
    rw [hu] at hv
    simp at hv; subst hv; exact hr

/-! ### Types -/

theorem run_sizeOf {t : TypeId} {n : Nat} (h : sizeT P t = some n) (w : World) : (sizeOf t).run P w = .ok n w := by
  simp only [sizeT, Option.map_eq_some_iff] at h
  obtain ⟨i, hi, rfl⟩ := h
  simp [sizeOf, typeInfo, hi]

theorem run_isAgg {t : TypeId} {g : Bool} (h : aggT P t = some g) (w : World) : (isAgg t).run P w = .ok g w := by
  simp only [aggT, Option.map_eq_some_iff] at h
  obtain ⟨d, hd, h⟩ := h
  unfold isAgg
  rw [Sem.run_bind, run_underlying hd w]
  cases d <;> (subst h; rfl)

theorem zeroT_spec {t : TypeId} {zs : List AV} (h : zeroT P t = some zs) : ∃ i z, P.info? t = some i ∧ i.zero = some z ∧ z.cells.size = i.size ∧ absFlats z.cells.toList = some zs := by
  simp only [zeroT, Option.bind_eq_some_iff] at h
  obtain ⟨i, hi, z, hz, h⟩ := h
  split at h
  · rename_i hs
    exact ⟨i, z, hi, hz, hs, h⟩
  · cases h

theorem run_zeroValue {t : TypeId} {i : TypeInfo} {z : Value} (hi : P.info? t = some i) (hz : i.zero = some z) (w : World) : (zeroValue t).run P w = .ok z w := by
  simp [zeroValue, typeInfo, hi, hz]

end Go.Lite
