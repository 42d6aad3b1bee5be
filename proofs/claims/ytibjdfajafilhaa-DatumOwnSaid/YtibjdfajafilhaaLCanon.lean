/-
  Content, told in one way, is what it was.
-/
import Derived.Test.YtibjdfajafilhaaLRel
namespace Go.Lite
open Go
set_option linter.unusedSimpArgs false
set_option linter.unusedVariables false

variable {nb : NB} {ι : Emb} {H : Heap} {w : World}

theorem VRel.L {es n : Nat} {f f' : Bool} {cs : List AV} {v : Value} (hf : n = 0 → f' = true → f = true) (h : VRel nb ι (.lst es n f cs) v) : VRel nb ι (.L f' es cs n) v := by
  simp only [VRel] at h
  obtain ⟨h0, a, cap, rfl, h1, h2, h3, h4⟩ := h
  cases n with
  | zero =>
    simp only [AV.L, VRel]
    exact ⟨rfl, a, cap, rfl, h1, fun e => h2 (hf rfl e), h3, fun e => absurd rfl e⟩
  | succ n =>
    simp only [AV.L, VRel]
    exact ⟨h0, a, cap, rfl, h1, fun e => by simp at e, h3, h4⟩

theorem L_pure {es n : Nat} {f : Bool} {cs : List AV} : (AV.L f es cs n).pure = true := by
  cases n <;> rfl

theorem canon_sound {x y : AV} {v : Value} (h : canon x = some y) (hv : VRel nb ι x v) : VRel nb ι y v ∧ y.pure = true := by
  unfold canon at h
  split at h
  · simp only [Option.some.injEq] at h
    subst h
    simp only [VRel] at hv ⊢
    subst hv
    exact ⟨⟨rfl, none, 0, rfl, Nat.le_refl _, fun _ => rfl, fun _ => rfl, fun e => absurd rfl e⟩, rfl⟩
  · simp only [Option.some.injEq] at h
    subst h
    simp only [VRel] at hv ⊢
    obtain ⟨a, cap, rfl⟩ := hv
    exact ⟨⟨rfl, some a, cap, rfl, Nat.zero_le _, (fun e => by simp at e), (fun e => by cases e), fun e => absurd rfl e⟩, rfl⟩
  · simp only [Option.some.injEq] at h
    subst h
    exact ⟨hv.L fun _ e => e, L_pure⟩
  · split at h
    case isFalse => cases h
    rename_i hp
    simp only [Option.some.injEq] at h
    subst h
    exact ⟨hv, hp⟩

theorem canonL_sound : ∀ {xs ys : List AV} {vs : List Value}, canonL xs = some ys → VRels nb ι xs vs → VRels nb ι ys vs ∧ pures ys = true
  | [], ys, vs, h, hv => by
    simp only [canonL, Option.some.injEq] at h
    subst h
    exact ⟨hv, rfl⟩
  | x :: xs, ys, vs, h, hv => by
    simp only [canonL, Option.bind_eq_some_iff, Option.map_eq_some_iff] at h
    obtain ⟨y, hy, zs, hz, rfl⟩ := h
    simp only [VRels] at hv
    obtain ⟨u, us, rfl, hu, hus⟩ := hv
    obtain ⟨g1, g2⟩ := canon_sound hy hu
    obtain ⟨g3, g4⟩ := canonL_sound hz hus
    exact ⟨by simp only [VRels]; exact ⟨u, us, rfl, g1, g3⟩, by simp only [pures, g2, g4, Bool.and_self]⟩

/-- what a block of the world's holds -/
def cellsAt (w : World) (b : Nat) : Array Value :=
  match w.heap[b]? with
  | some (.cells c _ _) => c
  | _ => #[]

theorem cellsAt_cell (w : World) (b i : Nat) : w.cell? ⟨b, i, none⟩ = (cellsAt w b)[i]? := by
  unfold World.cell? cellsAt
  cases w.heap[b]? with
  | none => simp
  | some o => cases o <;> simp

/-- .. will not change any more -/
def Emb.freeze (ι : Emb) (w : World) (b : Nat) : Emb := ⟨ι.map, fun b' => match ι.fz b' with | some c => some c | none => if b' = b then some (cellsAt w b) else none⟩

theorem Emb.le_freeze {b : Nat} : ι.le (ι.freeze w b) := ⟨fun _ _ h => h, fun b' c h => by simp only [Emb.freeze, h]⟩

/-- A row that will not change any more. -/
theorem Rel.settleH {k : Nat} {l : Loc} {cs : List AV} {es : Nat} {fz : Bool} {ty : Option Nat} {H' : Heap} (r : Rel nb ι H w) (hk : ι k = some l) (hg : H.t.get k = some (.row cs es fz ty)) (hH : ∀ j, H'.t.get j = if j = k then some (.row cs es true ty) else H.t.get j) (hHn : H'.n = H.n) (hHb : H'.base = H.base) :
    Rel nb (ι.freeze w l.blk) H' w ∧ Ext nb ι H w (ι.freeze w l.blk) H' w ∧ (ι.freeze w l.blk).fz l.blk = some (cellsAt w l.blk) := by
  have hle : ι.le (ι.freeze w l.blk) := Emb.le_freeze
  have hget : ∀ j o, H'.t.get j = some o → ∃ o', H.t.get j = some o' := fun j o h => by
    rw [hH] at h
    by_cases e : j = k
    · subst e; exact ⟨_, hg⟩
    · rw [if_neg e] at h; exact ⟨_, h⟩
  refine ⟨⟨r.nbw, ?_, ?_, ?_, ?_, ?_, ?_, ?_, r.inv⟩, ⟨hle, Nat.le_refl _, fun _ _ _ => rfl, fun k l h _ => ⟨k, l, h, rfl⟩, fun _ _ h => .inl h, by rw [hHn]; exact Nat.le_refl _, fun j _ hj => ?_, hHb, ⟨rfl, rfl, rfl⟩, fun b c hb => ?_⟩, ?_⟩
  · intro b bs hb
    rw [hHb] at hb
    refine ⟨(r.old b bs hb).1, fun i x hx => ?_⟩
    obtain ⟨v, hv, hr⟩ := (r.old b bs hb).2 i x hx
    exact ⟨v, hv, hr.mono (Emb.bare_mono hle)⟩
  · intro j q ds es' fz' ty' hj ho
    rw [hH] at ho
    by_cases e : j = k
    · subst e
      rw [if_pos rfl] at ho
      simp only [Option.some.injEq, Obj.row.injEq] at ho
      obtain ⟨rfl, rfl, rfl, rfl⟩ := ho
      obtain ⟨h1, h2, h3, h4⟩ := r.row j q cs es fz ty hj hg
      refine ⟨fun i x hx => ?_, fun h => by simp at h, h3, h4⟩
      obtain ⟨v, hv, hr⟩ := h1 i x hx
      exact ⟨v, hv, hr.mono hle⟩
    · rw [if_neg e] at ho
      obtain ⟨h1, h2, h3, h4⟩ := r.row j q ds es' fz' ty' hj ho
      refine ⟨fun i x hx => ?_, h2, h3, h4⟩
      obtain ⟨v, hv, hr⟩ := h1 i x hx
      exact ⟨v, hv, hr.mono hle⟩
  · intro j q s pos hj ho
    rw [hH] at ho
    by_cases e : j = k
    · rw [if_pos e] at ho; simp at ho
    · rw [if_neg e] at ho; exact r.iter j q s pos hj ho
  · exact fun j q hj => by rw [hHn]; exact r.dom j q hj
  · intro j j' q q' o1 o2 hj hj' h1 h2 hb
    obtain ⟨p1, e1⟩ := hget j o1 h1
    obtain ⟨p2, e2⟩ := hget j' o2 h2
    exact r.inj j j' q q' p1 p2 hj hj' e1 e2 hb
  · intro j o h
    obtain ⟨p1, e1⟩ := hget j o h
    rw [hHn]
    exact r.lt j p1 e1
  · intro b c hb
    by_cases hbl : b = l.blk
    · subst hbl
      refine ⟨(r.dom k l hk).2.1, fun i => ?_, fun j q o hj ho hq => ?_⟩
      · simp only [Emb.freeze] at hb
        cases hf : ι.fz l.blk with
        | some c' =>
          rw [hf] at hb
          simp only [Option.some.injEq] at hb
          subst hb
          exact (r.fz _ _ hf).2.1 i
        | none =>
          rw [hf] at hb
          simp only [if_true, Option.some.injEq] at hb
          subst hb
          exact cellsAt_cell w l.blk i
      · obtain ⟨p1, e1⟩ := hget j o ho
        obtain rfl := r.inj j k q l p1 _ hj hk e1 hg hq
        rw [hH, if_pos rfl] at ho
        simp only [Option.some.injEq] at ho
        exact ⟨_, _, _, ho.symm⟩
    · have hf : ι.fz b = some c := by
        simp only [Emb.freeze] at hb
        cases hf : ι.fz b with
        | some c' => rw [hf] at hb; simpa using hb
        | none => rw [hf, if_neg hbl] at hb; cases hb
      obtain ⟨g1, g2, g3⟩ := r.fz b c hf
      refine ⟨g1, g2, fun j q o hj ho hq => ?_⟩
      rw [hH] at ho
      by_cases e : j = k
      · rw [if_pos e] at ho
        simp only [Option.some.injEq] at ho
        exact ⟨_, _, _, ho.symm⟩
      · rw [if_neg e] at ho
        exact g3 j q o hj ho hq
  · rw [hH, if_neg]
    rintro rfl
    rw [hk] at hj; cases hj
  · simp only [Emb.freeze] at hb
    cases hf : ι.fz b with
    | some c' => rw [hf] at hb; exact .inl hb
    | none =>
      rw [hf] at hb
      by_cases hbl : b = l.blk
      · exact .inr (.inr ⟨k, l, hk, hbl.symm⟩)
      · rw [if_neg hbl] at hb; cases hb
  · simp only [Emb.freeze]
    cases hf : ι.fz l.blk with
    | some c' =>
      simp only [Option.some.injEq]
      apply Array.ext_getElem?
      intro i
      rw [← (r.fz _ _ hf).2.1 i, cellsAt_cell]
    | none => simp

theorem Rel.settle {k : Nat} {l : Loc} {cs : List AV} {es : Nat} {fz : Bool} {ty : Option Nat} (r : Rel nb ι H w) (hk : ι k = some l) (hg : H.t.get k = some (.row cs es fz ty)) :
    Rel nb (ι.freeze w l.blk) (H.put k (.row cs es true ty)) w ∧ Ext nb ι H w (ι.freeze w l.blk) (H.put k (.row cs es true ty)) w ∧ (ι.freeze w l.blk).fz l.blk = some (cellsAt w l.blk) :=
  r.settleH hk hg (fun j => by simp only [Heap.put, T.get_set]) rfl rfl

end Go.Lite
