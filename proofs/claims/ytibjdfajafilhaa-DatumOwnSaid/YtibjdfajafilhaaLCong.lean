/-
  What an operation comes to hangs on the temporaries that it names alone.
-/
import Derived.Test.YtibjdfajafilhaaLPlan
namespace Go.Lite
open Go
set_option linter.unusedSimpArgs false
set_option linter.unusedVariables false

/-- a frame, of which some temporaries are told -/
def Fr.mask (fr : Fr) (l : List Nat) : Fr := fun t => if t ∈ l then fr t else .undef

theorem SX.congr {x : SX} {f g : Fr} (h : ∀ t ∈ x.tmps, f t = g t) : x.ev f = x.ev g := by
  cases x with
  | tmp t => exact h t (by simp [SX.tmps])
  | lit v => rfl

theorem tmpsL_congr {l : List SX} {f g : Fr} (h : ∀ t ∈ tmpsL l, f t = g t) : l.map (·.ev f) = l.map (·.ev g) :=
  List.map_congr_left fun x hx => SX.congr fun t ht => h t (List.mem_flatMap.2 ⟨x, hx, ht⟩)

theorem tmpsP_congr {l : List (Nat × Nat × SX)} {f g : Fr} (h : ∀ t ∈ tmpsP l, f t = g t) : (l.map fun p => (p.1, p.2.1, p.2.2.ev f)) = l.map fun p => (p.1, p.2.1, p.2.2.ev g) :=
  List.map_congr_left fun x hx => by rw [SX.congr fun t ht => h t (List.mem_flatMap.2 ⟨x, hx, ht⟩)]

theorem optNat_congr {x : Option SX} {f g : Fr} (h : ∀ t ∈ tmpsO x, f t = g t) : optNat f x = optNat g x := by
  cases x with
  | none => rfl
  | some x => simp only [optNat]; rw [SX.congr h]

theorem bnd_congr {x : Option SX} {f g : Fr} {d : Nat} (h : ∀ t ∈ tmpsO x, f t = g t) : bnd f d x = bnd g d x := by
  cases x with
  | none => rfl
  | some x => simp only [bnd]; rw [SX.congr h]

theorem POp.congr {o : POp} {f g : Fr} {H : Heap} (h : ∀ t ∈ o.tmps, f t = g t) : o.val f H = o.val g H := by
  have A : ∀ {l l' : List Nat}, (∀ t ∈ l ++ l', f t = g t) → (∀ t ∈ l, f t = g t) ∧ (∀ t ∈ l', f t = g t) := fun h => ⟨fun t ht => h t (List.mem_append_left _ ht), fun t ht => h t (List.mem_append_right _ ht)⟩
  cases o <;> simp only [POp.tmps] at h <;> simp only [POp.val]
  case pick c x y => rw [SX.congr (A (A h).1).1, SX.congr (A (A h).1).2, SX.congr (A h).2]
  case build zs ps => rw [tmpsP_congr h]
  case bin op t x y => rw [SX.congr (A h).1, SX.congr (A h).2]
  case min2 x y => rw [SX.congr (A h).1, SX.congr (A h).2]
  case max2 x y => rw [SX.congr (A h).1, SX.congr (A h).2]
  case iaddr s x y => rw [SX.congr (A h).1, SX.congr (A h).2]
  case iaddrA n s x y => rw [SX.congr (A h).1, SX.congr (A h).2]
  case indexT x y => rw [SX.congr (A h).1, SX.congr (A h).2]
  case indexA1 n x y => rw [SX.congr (A h).1, SX.congr (A h).2]
  case closure fn cs => rw [tmpsL_congr h]
  case sliceS s x lo hi mx => rw [SX.congr (A (A (A h).1).1).1, optNat_congr (A (A (A h).1).1).2, optNat_congr (A (A h).1).2, optNat_congr (A h).2]
  case sliceT x lo hi =>
    rw [SX.congr (A (A h).1).1]
    congr 1
    funext s
    rw [bnd_congr (A (A h).1).2]
    congr 1
    funext l
    rw [bnd_congr (A h).2]
  all_goals rw [SX.congr h]

theorem POp.still {o : POp} {f : Fr} {H H' : Heap} (h : o.reads = false) : o.val f H = o.val f H' := by
  cases o <;> first | rfl | (simp [POp.reads] at h)

theorem Heap.cells_push {H : Heap} {o : Obj} {p : Blk} {cs : List AV} (hlt : ∀ k o, H.t.get k = some o → k < H.n) (h : H.cells p = some cs) : (H.push o).cells p = some cs := by
  cases p with
  | old b => exact h
  | new k =>
    simp only [Heap.cells, Option.bind_eq_some_iff] at h
    obtain ⟨q, hq, hc⟩ := h
    have := hlt k q hq
    simp only [Heap.cells, Heap.push, T.get_set]
    rw [if_neg (by omega), hq]
    exact hc
  | val ds => exact h

theorem Heap.ld1_push {H : Heap} {o : Obj} {p : Blk} {i : Nat} {x : AV} (hlt : ∀ k o, H.t.get k = some o → k < H.n) (h : H.ld1 p i = some x) : (H.push o).ld1 p i = some x := by
  simp only [Heap.ld1, Option.bind_eq_some_iff] at h ⊢
  obtain ⟨cs, hc, hx⟩ := h
  exact ⟨cs, Heap.cells_push hlt hc, hx⟩

theorem Heap.ldn_push {H : Heap} {o : Obj} {p : Blk} {i n : Nat} {xs : List AV} (hlt : ∀ k o, H.t.get k = some o → k < H.n) (h : H.ldn p i n = some xs) : (H.push o).ldn p i n = some xs := by
  simp only [Heap.ldn, Option.bind_eq_some_iff] at h ⊢
  obtain ⟨cs, hc, hx⟩ := h
  exact ⟨cs, Heap.cells_push hlt hc, hx⟩

theorem POp.push {o : POp} {f : Fr} {H : Heap} {ob : Obj} {v : AV} (hlt : ∀ k o, H.t.get k = some o → k < H.n) (h : o.val f H = some v) : o.val f (H.push ob) = some v := by
  cases hr : o.reads with
  | false => rw [← POp.still (H := H) hr]; exact h
  | true =>
    cases o <;> simp [POp.reads] at hr
    case load1 x =>
      simp only [POp.val, Option.bind_eq_some_iff] at h ⊢
      obtain ⟨q, hq, hx⟩ := h
      exact ⟨q, hq, Heap.ld1_push hlt hx⟩
    case loadn n x =>
      simp only [POp.val, Option.bind_eq_some_iff, Option.map_eq_some_iff] at h ⊢
      obtain ⟨q, hq, xs, hx, rfl⟩ := h
      exact ⟨q, hq, xs, Heap.ldn_push hlt hx, rfl⟩
    case bytesStr x =>
      simp only [POp.val] at h ⊢
      unfold strOfBytes at h ⊢
      cases hx : x.ev f <;> rw [hx] at h <;> first | exact h | skip
      simp only [Option.bind_eq_some_iff] at h ⊢
      obtain ⟨cs, hc, hx⟩ := h
      exact ⟨cs, Heap.ldn_push hlt hc, hx⟩

theorem AOp.congr {o : AOp} {f g : Fr} {k : Nat} (h : ∀ t ∈ o.tmps, f t = g t) : o.val f k = o.val g k := by
  have A : ∀ {l l' : List Nat}, (∀ t ∈ l ++ l', f t = g t) → (∀ t ∈ l, f t = g t) ∧ (∀ t ∈ l', f t = g t) := fun h => ⟨fun t ht => h t (List.mem_append_left _ ht), fun t ht => h t (List.mem_append_right _ ht)⟩
  cases o <;> simp only [AOp.tmps] at h <;> simp only [AOp.val]
  case buildS zs n ps => rw [tmpsP_congr h]
  case makeS zs b l c => rw [SX.congr (A h).1, SX.congr (A h).2]
  all_goals rw [SX.congr h]

theorem WOp.congr {o : WOp} {f g : Fr} {H : Heap} (h : ∀ t ∈ o.tmps, f t = g t) : o.val f H = o.val g H := by
  have A : ∀ {l l' : List Nat}, (∀ t ∈ l ++ l', f t = g t) → (∀ t ∈ l, f t = g t) ∧ (∀ t ∈ l', f t = g t) := fun h => ⟨fun t ht => h t (List.mem_append_left _ ht), fun t ht => h t (List.mem_append_right _ ht)⟩
  cases o <;> simp only [WOp.tmps] at h <;> simp only [WOp.val]
  case store s a x => rw [SX.congr (A h).1, SX.congr (A h).2]
  case append s b a x => rw [SX.congr (A h).1, SX.congr (A h).2]
  case nextT x => rw [SX.congr h]

theorem SOp.congr {call : CallF} {o : SOp} {f g : Fr} {H : Heap} {k : AV → Heap → R} (h : ∀ t ∈ o.tmps, f t = g t) : o.run call f H k = o.run call g H k := by
  have A : ∀ {l l' : List Nat}, (∀ t ∈ l ++ l', f t = g t) → (∀ t ∈ l, f t = g t) ∧ (∀ t ∈ l', f t = g t) := fun h => ⟨fun t ht => h t (List.mem_append_left _ ht), fun t ht => h t (List.mem_append_right _ ht)⟩
  cases o <;> simp only [SOp.tmps] at h <;> simp only [SOp.run]
  case p o => rw [POp.congr h]
  case a o => rw [AOp.congr h]
  case w o => rw [WOp.congr h]
  case call fn as => rw [SX.congr (A h).1, tmpsL_congr (A h).2]
  case panic x => rw [SX.congr h]

theorem wants_congr {q : Option (Nat × Bool)} {f g : Fr} (h : ∀ t b, q = some (t, b) → f t = g t) : wants f q = wants g q := by
  cases q with
  | none => rfl
  | some q => obtain ⟨t, b⟩ := q; simp only [wants]; rw [h t b rfl]

theorem SOper.guard_looks {o : SOper} {t : Nat} {b : Bool} (h : o.guard = some (t, b)) : t ∈ o.looks := by
  unfold SOper.looks; rw [h]; simp

theorem SOper.op_looks {o : SOper} {t : Nat} (h : t ∈ o.op.tmps) : t ∈ o.looks := by
  unfold SOper.looks; exact List.mem_append_right _ h

theorem mask_eq {f : Fr} {l : List Nat} {t : Nat} (h : t ∈ l) : f.mask l t = f t := by simp [Fr.mask, h]

end Go.Lite
