/-
  What was made, told as content that will not change.
-/
import Derived.Test.YtibjdfajafilhaaLDrawD
namespace Go.Lite
open Go
set_option linter.unusedSimpArgs false
set_option linter.unusedVariables false

variable {nb : NB} {ι : Emb} {H : Heap} {w : World}

/-- What is told as content is what it was, and content. -/
def ShutsOk (nb : NB) (f : AV → Heap → Option (AV × Heap)) : Prop :=
  ∀ (x : AV) (H : Heap) (y : AV) (H' : Heap) (ι : Emb) (w : World) (v : Value), f x H = some (y, H') → VRel nb ι x v → Rel nb ι H w → ∃ ι', Rel nb ι' H' w ∧ Ext nb ι H w ι' H' w ∧ VRel nb ι' y v ∧ y.pure = true

theorem mapHM_sound {f : AV → Heap → Option (AV × Heap)} (hf : ShutsOk nb f) : ∀ (xs : List AV) (H : Heap) (ys : List AV) (H' : Heap) (ι : Emb) (w : World) (vs : List Value), mapHM f xs H = some (ys, H') → VRels nb ι xs vs → Rel nb ι H w →
    ∃ ι', Rel nb ι' H' w ∧ Ext nb ι H w ι' H' w ∧ VRels nb ι' ys vs ∧ pures ys = true
  | [], H, ys, H', ι, w, vs, h, hv, r => by
    simp only [mapHM, Option.some.injEq, Prod.mk.injEq] at h
    obtain ⟨rfl, rfl⟩ := h
    exact ⟨ι, r, Ext.refl, hv, rfl⟩
  | x :: xs, H, ys, H', ι, w, vs, h, hv, r => by
    simp only [mapHM, Option.bind_eq_some_iff, Option.map_eq_some_iff, Prod.mk.injEq] at h
    obtain ⟨⟨y, H1⟩, h1, ⟨zs, H2⟩, h2, rfl, rfl⟩ := h
    simp only [VRels] at hv
    obtain ⟨u, us, rfl, hu, hus⟩ := hv
    obtain ⟨ι1, r1, e1, v1, p1⟩ := hf x H y H1 ι w u h1 hu r
    obtain ⟨ι2, r2, e2, v2, p2⟩ := mapHM_sound hf xs H1 zs H2 ι1 w us h2 (hus.mono e1.le) r1
    refine ⟨ι2, r2, e1.trans e2, ?_, by simp only [pures, p1, p2, Bool.and_self]⟩
    simp only [VRels]
    exact ⟨u, us, rfl, v1.mono e2.le, v2⟩

theorem shutC_sound : ∀ d, ShutsOk nb (shutC d)
  | 0 => fun x H y H' ι w v h hv r => by
    simp only [shutC, Option.map_eq_some_iff, Prod.mk.injEq] at h
    obtain ⟨z, hz, rfl, rfl⟩ := h
    obtain ⟨g1, g2⟩ := canon_sound hz hv
    exact ⟨ι, r, Ext.refl, g1, g2⟩
  | d + 1 => fun x H y H' ι w v h hv r => by
    simp only [shutC] at h
    split at h
    · rename_i k o n c
      unfold shutRow at h
      split at h
      case h_2 => cases h
      rename_i cs es fz ty hg
      split at h
      case isFalse => cases h
      rename_i hc
      obtain ⟨hc1, hc2⟩ := hc
      simp only [Option.map_eq_some_iff, Prod.mk.injEq] at h
      obtain ⟨⟨zs, H2⟩, hz, rfl, rfl⟩ := h
      have hv' := hv
      simp only [VRel, locOf] at hv
      obtain ⟨l, cap, hl, rfl, hn, hcap⟩ := hv
      obtain ⟨r1, e1, f1⟩ := r.settle hl hg
      have hld : H.ldn (.new k) o (n * c.es) = some ((cs.drop o).take (n * c.es)) := by
        simp only [Heap.ldn, Heap.cells, hg, Obj.cells, Option.bind_some, hc1, if_true]
      obtain ⟨_, vs, hvl, hrange, hvs⟩ := ldn_sound (p := .new k) r hl hld
      obtain ⟨ι2, r2, e2, v2, p2⟩ := mapHM_sound (shutC_sound d) _ _ _ _ _ w vs hz (hvs.mono e1.le) r1
      refine ⟨ι2, r2, e1.trans e2, VRel.L (f := c.full 0 && Nat.beq n 0) (es := c.es) (cs := zs) (fun h0 h1 => by subst h0; simp [h1]) ?_, L_pure⟩
      · simp only [VRel]
        have hzl : zs.length = n * c.es := by rw [← v2.length]; exact hvl
        refine ⟨hzl, _, cap, rfl, hn, fun hf => ?_, (fun e => by cases e), fun hn0 => ?_⟩
        · simp only [Bool.and_eq_true] at hf
          have hn0 := Nat.eq_of_beq_eq_true hf.2
          subst hn0
          cases c with
          | fix c0 e0 =>
            simp only [capRel] at hcap
            simp only [Cap.full] at hf
            rw [hcap]
            exact Nat.eq_of_beq_eq_true hf.1
          | gro e0 => simp [Cap.full] at hf
        · refine ⟨l.blk, l.off + o, vs, rfl, VRels.pure zs vs p2 v2, cellsAt w l.blk, e2.le.fz _ _ f1, fun i u hu => ?_⟩
          rw [← cellsAt_cell]
          exact hrange i u hu
    · simp only [Option.map_eq_some_iff, Prod.mk.injEq] at h
      obtain ⟨z, hz, rfl, rfl⟩ := h
      obtain ⟨g1, g2⟩ := canon_sound hz hv
      exact ⟨ι, r, Ext.refl, g1, g2⟩

theorem shutA_sound : ShutsOk nb shutA := fun x H y H' ι w v h hv r => by
  unfold shutA at h
  split at h
  · simp only [Option.map_eq_some_iff, Prod.mk.injEq] at h
    obtain ⟨⟨zs, H2⟩, hz, rfl, rfl⟩ := h
    simp only [VRel] at hv
    obtain ⟨l, rfl, hl⟩ := hv
    obtain ⟨ι1, r1, e1, v1, p1⟩ := mapHM_sound (shutC_sound 64) _ _ _ _ _ w _ hz hl r
    exact ⟨ι1, r1, e1, by simp only [VRel]; exact ⟨l, rfl, v1⟩, p1⟩
  · simp only [Option.map_eq_some_iff, Prod.mk.injEq] at h
    obtain ⟨⟨zs, H2⟩, hz, rfl, rfl⟩ := h
    simp only [VRel] at hv
    obtain ⟨l, rfl, hl⟩ := hv
    obtain ⟨ι1, r1, e1, v1, p1⟩ := mapHM_sound (shutC_sound 64) _ _ _ _ _ w _ hz hl r
    exact ⟨ι1, r1, e1, by simp only [VRel]; exact ⟨l, rfl, v1⟩, p1⟩
  · exact shutC_sound 64 x H y H' ι w v h hv r

theorem shutV_sound : ShutsOk nb shutV := fun x H y H' ι w v h hv r => by
  unfold shutV at h
  split at h
  · simp only [Option.map_eq_some_iff, Prod.mk.injEq] at h
    obtain ⟨⟨zs, H2⟩, hz, rfl, rfl⟩ := h
    simp only [VRel] at hv
    obtain ⟨l, rfl, hl⟩ := hv
    obtain ⟨ι1, r1, e1, v1, p1⟩ := mapHM_sound shutA_sound _ _ _ _ _ w _ hz hl r
    exact ⟨ι1, r1, e1, by simp only [VRel]; exact ⟨l, rfl, v1⟩, p1⟩
  · simp only [Option.map_eq_some_iff, Prod.mk.injEq] at h
    obtain ⟨⟨z, H2⟩, hz, rfl, rfl⟩ := h
    simp only [VRel] at hv
    obtain ⟨u, rfl, hu⟩ := hv
    obtain ⟨ι1, r1, e1, v1, p1⟩ := shutA_sound _ _ _ _ _ w _ hz hu r
    exact ⟨ι1, r1, e1, by simp only [VRel]; exact ⟨u, rfl, v1⟩, p1⟩
  · exact shutA_sound x H y H' ι w v h hv r

theorem softs_sound : ∀ (xs : List AV) (H : Heap) (ys : List AV) (H' : Heap) (ι : Emb) (w : World) (vs : List Value), mapHM softV xs H = some (ys, H') → VRels nb ι xs vs → Rel nb ι H w →
    ∃ ι', Rel nb ι' H' w ∧ Ext nb ι H w ι' H' w ∧ VRels nb ι' ys vs
  | [], H, ys, H', ι, w, vs, h, hv, r => by
    simp only [mapHM, Option.some.injEq, Prod.mk.injEq] at h
    obtain ⟨rfl, rfl⟩ := h
    exact ⟨ι, r, Ext.refl, hv⟩
  | x :: xs, H, ys, H', ι, w, vs, h, hv, r => by
    simp only [mapHM, Option.bind_eq_some_iff, Option.map_eq_some_iff, Prod.mk.injEq] at h
    obtain ⟨⟨y, H1⟩, h1, ⟨zs, H2⟩, h2, rfl, rfl⟩ := h
    simp only [VRels] at hv
    obtain ⟨u, us, rfl, hu, hus⟩ := hv
    obtain ⟨ι1, r1, e1, v1⟩ : ∃ ι', Rel nb ι' H1 w ∧ Ext nb ι H w ι' H1 w ∧ VRel nb ι' y u := by
      unfold softV at h1
      split at h1
      · rename_i q hq
        obtain ⟨y', H1'⟩ := q
        simp only [Option.some.injEq, Prod.mk.injEq] at h1
        obtain ⟨rfl, rfl⟩ := h1
        obtain ⟨ι1, r1, e1, v1, _⟩ := shutV_sound x H y' H1' ι w u hq hu r
        exact ⟨ι1, r1, e1, v1⟩
      · simp only [Option.some.injEq, Prod.mk.injEq] at h1
        obtain ⟨rfl, rfl⟩ := h1
        exact ⟨ι, r, Ext.refl, hu⟩
    obtain ⟨ι2, r2, e2, v2⟩ := softs_sound xs H1 zs H2 ι1 w us h2 (hus.mono e1.le) r1
    refine ⟨ι2, r2, e1.trans e2, ?_⟩
    simp only [VRels]
    exact ⟨u, us, rfl, v1.mono e2.le, v2⟩

/-- The heap as a sealed call finds it. -/
theorem Rel.bareH (r : Rel nb ι H w) : Rel nb ι.bare H.bare w where
  nbw := r.nbw
  inv := r.inv
  old := r.old
  row k l cs es fz ty h := by cases h
  iter k l s pos h := by cases h
  dom k l h := by cases h
  inj k k' l l' o o' h := by cases h
  lt k o h := by simp [Heap.bare, T.get_nil] at h
  fz b c h := ⟨(r.fz b c h).1, (r.fz b c h).2.1, fun k l o h => by cases h⟩

/-- .. and as it is behind it. -/
theorem Rel.behind {ι' : Emb} {H' : Heap} {w' : World} (r : Rel nb ι H w) (r' : Rel nb ι' H' w') (e : Ext nb ι.bare H.bare w ι' H' w') :
    Rel nb ⟨ι.map, ι'.fz⟩ H w' ∧ Ext nb ι H w ⟨ι.map, ι'.fz⟩ H w' := by
  have hle : ι.le ⟨ι.map, ι'.fz⟩ := ⟨fun _ _ h => h, e.le.fz⟩
  have hk : ∀ b, b < w.heap.size → w'.heap[b]? = w.heap[b]? := fun b hb => e.kept b hb (.inr fun k l h => by cases h)
  have hcell : ∀ b i v, w.cell? ⟨b, i, none⟩ = some v → w'.cell? ⟨b, i, none⟩ = some v := fun b i v h => by
    rw [cell?_of_heap (hk b (cell_lt h))]; exact h
  refine ⟨⟨Nat.le_trans r.nbw e.size, ?_, ?_, ?_, ?_, r.inj, r.lt, ?_, r'.inv⟩, ⟨hle, e.size, fun b hb _ => hk b hb, fun k l h _ => ⟨k, l, h, rfl⟩, fun _ _ h => .inl h, Nat.le_refl _, fun _ _ _ => rfl, rfl, e.env, ?_⟩⟩
  · intro b bs hb
    refine ⟨(r.old b bs hb).1, fun i x hx => ?_⟩
    obtain ⟨v, hv, hr⟩ := (r.old b bs hb).2 i x hx
    exact ⟨v, hcell _ _ _ hv, hr.mono (Emb.bare_mono hle)⟩
  · intro j q ds es' fz' ty' hj ho
    obtain ⟨h1, h2, h3, h4⟩ := r.row j q ds es' fz' ty' hj ho
    have hlt := (r.dom j q hj).2.1
    refine ⟨fun i x hx => ?_, fun hf i v hv => ?_, fun he i hi => ?_, h4.of_heap (hk _ hlt)⟩
    · obtain ⟨v, hv, hr⟩ := h1 i x hx
      exact ⟨v, hcell _ _ _ hv, hr.mono hle⟩
    · rw [cell?_of_heap (hk _ hlt)] at hv
      rw [frozen?_of_heap (hk _ hlt)]
      exact h2 hf i v hv
    · obtain ⟨v, hv⟩ := h3 he i hi
      exact ⟨v, hcell _ _ _ hv⟩
  · intro j q s pos hj ho
    obtain ⟨h0, b, h1, h2⟩ := r.iter j q s pos hj ho
    exact ⟨h0, b, h1, by rw [hk _ (r.dom j q hj).2.1]; exact h2⟩
  · intro j q hj
    obtain ⟨h1, h2, h3⟩ := r.dom j q hj
    exact ⟨h1, Nat.lt_of_lt_of_le h2 e.size, h3⟩
  · intro b c hb
    obtain ⟨g1, g2, g3⟩ := r'.fz b c hb
    refine ⟨g1, g2, fun j q o hj ho hq => ?_⟩
    rcases e.frz b c hb with h | h | ⟨k, l, h, _⟩
    · exact (r.fz b c h).2.2 j q o hj ho hq
    · have := (r.dom j q hj).2.1
      omega
    · cases h
  · intro b c hb
    rcases e.frz b c hb with h | h | ⟨k, l, h, _⟩
    · exact .inl h
    · exact .inr (.inl h)
    · cases h

end Go.Lite
