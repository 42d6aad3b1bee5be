/-
  What stands in the world ahead of a call, as content: whole numbers side by side, and rows of them.
-/
import Derived.Test.YtibjdfajafilhaaLVal
import Derived.ProofKit
import Derived.OpenShut
import Derived.ShutString
namespace Go.Lite
open Go
set_option linter.unusedVariables false
set_option linter.unusedSimpArgs false

variable {nb : NB} {H : Type} {enc : TypeId × Value → H} {P : Program} {W : World} {sp : Nat → Bool} {held : Bool}

theorem mapM_ok {α β : Type} {f : α → Option β} : ∀ {l : List α} {ys : List β}, l.mapM f = some ys → ys.length = l.length ∧ ∀ (i : Nat) x, l[i]? = some x → ∃ y, f x = some y ∧ ys[i]? = some y
  | [], ys, h => by
    simp only [List.mapM_nil, Option.pure_def, Option.some.injEq] at h
    subst h
    exact ⟨rfl, fun i x hx => by simp at hx⟩
  | x :: l, ys, h => by
    simp only [List.mapM_cons, Option.pure_def, Option.bind_eq_bind, Option.bind_eq_some_iff, Option.some.injEq] at h
    obtain ⟨y, hy, zs, hz, rfl⟩ := h
    obtain ⟨h1, h2⟩ := mapM_ok hz
    refine ⟨by simp [h1], fun i a ha => ?_⟩
    cases i with
    | zero =>
      simp only [List.getElem?_cons_zero, Option.some.injEq] at ha
      subst ha
      exact ⟨y, hy, rfl⟩
    | succ i => simpa using h2 i a (by simpa using ha)

theorem cells_ok {base : Nat} {a : Addr} {n : Nat} {cs : List Value} (h : W.cells? base a n = some cs) : cs.length = n ∧ ∀ (i : Nat) v, cs[i]? = some v → W.cell? (a.add i) = some v := by
  unfold World.cells? at h
  split at h
  case isFalse => cases h
  obtain ⟨h1, h2⟩ := mapM_ok h
  rw [List.length_range] at h1
  refine ⟨h1, fun i v hv => ?_⟩
  have hi := (List.getElem?_eq_some_iff.1 hv).1
  obtain ⟨y, hy, hyv⟩ := h2 i i (List.getElem?_range (by omega))
  rw [hv] at hyv
  simp only [Option.some.injEq] at hyv
  subst hyv
  exact hy

theorem addr_add_add (a : Addr) (m n : Nat) : (a.add m).add n = a.add (m + n) := by
  unfold Addr.add
  by_cases hm : m = 0 <;> by_cases hn : n = 0 <;> simp [hm, hn, Nat.add_assoc]

theorem cell_spot {a : Addr} {v : Value} (h : W.cell? a = some v) : a.spot = none ∧ a.block < W.heap.size := by
  unfold World.cell? at h
  split at h
  case h_2 => cases h
  rename_i hb
  refine ⟨?_, (Array.getElem?_eq_some_iff.1 hb).1⟩
  split at h
  · cases h
  · rename_i hs
    cases hsp : a.spot with
    | none => rfl
    | some q => rw [hsp] at hs; simp at hs

/-- A slice, of what its elements are. -/
theorem slice_rel {α : Type} {g : α → List AV} {F : α → Prop} {es len cap : Nat} {a : Addr} (hes : es ≠ 0) (hg : ∀ x, (g x).length = es) (hlc : len ≤ cap)
    (hel : ∀ i, i < len → ∃ cs x, W.cells? 0 (a.add (i * es)) es = some cs ∧ VRels nb (emb0 W) (g x) cs ∧ F x) :
    ∃ l : List α, l.length = len ∧ VRel nb (emb0 W) (vList false es g l) (.slice (some a) len cap) ∧ ∀ x ∈ l, F x := by
  have key : ∀ m, m ≤ len → ∃ (l : List α) (vs : List Value), l.length = m ∧ VRels nb (emb0 W) (l.flatMap g) vs ∧ vs.length = m * es ∧ (∀ (j : Nat) u, vs[j]? = some u → W.cell? (a.add j) = some u) ∧ ∀ x ∈ l, F x := by
    intro m
    induction m with
    | zero => exact fun _ => ⟨[], [], rfl, by simp [VRels], by simp, fun j u h => by simp at h, fun x h => by cases h⟩
    | succ m ih =>
      intro hm
      obtain ⟨l, vs, h1, h2, h3, h4, h5⟩ := ih (by omega)
      obtain ⟨cs, x, hc, hx, hf⟩ := hel m (by omega)
      obtain ⟨c1, c2⟩ := cells_ok hc
      refine ⟨l ++ [x], vs ++ cs, by simp [h1], by rw [List.flatMap_append]; simpa using h2.append hx, by rw [List.length_append, h3, c1, Nat.add_mul, Nat.one_mul], fun j u hj => ?_, fun y hy => ?_⟩
      · rcases Nat.lt_or_ge j vs.length with h | h
        · rw [List.getElem?_append_left h] at hj
          exact h4 j u hj
        · rw [List.getElem?_append_right h] at hj
          have := c2 _ u hj
          rw [addr_add_add] at this
          rw [← this]
          congr 2
          omega
      · rcases List.mem_append.1 hy with h | h
        · exact h5 y h
        · rw [List.mem_singleton.1 h]; exact hf
  obtain ⟨l, vs, h1, h2, h3, h4, h5⟩ := key len (Nat.le_refl _)
  refine ⟨l, h1, ?_, h5⟩
  cases l with
  | nil =>
    simp only [List.length_nil] at h1
    subst h1
    simp only [vList_nil, VRel]
    exact ⟨rfl, some a, cap, rfl, hlc, (fun e => by cases e), (fun e => by cases e), fun e => absurd rfl e⟩
  | cons x l =>
    simp only [List.length_cons] at h1
    have hv0 : ∃ v, vs[0]? = some v := ⟨vs[0]'(by rw [h3, ← h1, Nat.add_mul]; omega), List.getElem?_eq_getElem _⟩
    obtain ⟨v0, hv0⟩ := hv0
    have h40 := h4 0 v0 hv0
    have ha0 : a.add 0 = a := by simp [Addr.add]
    rw [ha0] at h40
    obtain ⟨s1, s2⟩ := cell_spot h40
    obtain ⟨ab, ao, as⟩ := a
    simp only [] at s1 s2
    subst s1
    simp only [vList_cons, VRel, h1]
    have hlen : (g x ++ l.flatMap g).length = len * es := by
      have := flat_len hg (x :: l)
      simp only [List.flatMap_cons, List.length_cons] at this
      rw [this, h1]
    refine ⟨hlen, _, cap, rfl, hlc, (fun e => by cases e), (fun e => by cases e), fun _ => ⟨ab, ao, vs, rfl, by simpa [emb0_bare] using h2, cellsAt W ab, ?_, fun i u hu => ?_⟩⟩
    · simp only [emb0]
      rw [if_pos s2]
    · have := h4 i u hu
      rw [Addr.add_mid] at this
      rw [← cellsAt_cell]
      exact this

theorem slice_nil_rel {α : Type} {g : α → List AV} {es : Nat} : VRel nb (emb0 W) (vList false es g []) (.slice none 0 0) := by
  simp only [vList_nil, VRel]
  exact ⟨rfl, none, 0, rfl, Nat.le_refl _, (fun e => by cases e), fun _ => rfl, fun e => absurd rfl e⟩

/-- whole numbers -/
theorem open_ints {fuel : Nat} {t e : TypeId} {u : Value} {x : DataW H × List MemPlace} (ht : P.underlying t = some (.slice e)) (he : P.underlying e = some (.int .i64)) (hc : P.cellsOf e = 1) (h : DataW.trod enc P W 0 sp held fuel t [u] = some x) :
    ∃ l : List Int, l.length ≤ 9223372036854775807 ∧ VRel nb (emb0 W) (vList false 1 (fun n => [AV.int .i64 n]) l) u := by
  rcases DataW.trod_slice ht h with ⟨h1, _⟩ | ⟨a, len, cap, elems, rest, n, _, h1, _, _, hl, hm, hlen, hel, _, _⟩
  · simp only [List.cons.injEq, and_true] at h1
    subst h1
    exact ⟨[], by simp, slice_nil_rel⟩
  · simp only [List.cons.injEq, and_true] at h1
    subst h1
    rw [hc] at hel
    obtain ⟨l, h1, h2, _⟩ := slice_rel (W := W) (g := fun n => [AV.int .i64 n]) (F := fun _ => True) (es := 1) (by decide) (fun _ => rfl) hl fun i hi => by
      obtain ⟨y, hy⟩ : ∃ y, elems[i]? = some y := ⟨elems[i]'(by omega), List.getElem?_eq_getElem _⟩
      have := hel i hi
      rw [hy] at this
      obtain ⟨cs, hcs, hd⟩ := Option.bind_eq_some_iff.1 this
      obtain ⟨k, rfl, _, _⟩ := DataW.trod_int he hd
      exact ⟨_, k, hcs, by simp [VRels, VRel], trivial⟩
    exact ⟨l, by rw [h1]; have : maxLen = 9223372036854775807 := by decide
                 omega, h2⟩

end Go.Lite
