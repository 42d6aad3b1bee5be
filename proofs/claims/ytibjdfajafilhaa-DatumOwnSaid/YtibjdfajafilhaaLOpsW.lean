/-
  Each operation that writes comes, in the model, to what the interpreter says.
-/
import Derived.Test.YtibjdfajafilhaaLOpsA
namespace Go.Lite
open Go
set_option linter.unusedSimpArgs false
set_option linter.unusedVariables false

variable {P : Program} {nb : NB} {ι : Emb} {H : Heap} {w : World} {fr : Fr} {a : Act} {nt : Nat}

theorem size_setCells (b : Nat) : ∀ (vs : List Value) (o : Nat) (w : World), (w.setCells b o vs).heap.size = w.heap.size
  | [], o, w => rfl
  | v :: vs, o, w => by
    show ((w.setCell ⟨b, o, none⟩ v).setCells b (o + 1) vs).heap.size = _
    rw [size_setCells b vs]; simp

theorem other_setCells {b c : Nat} (h : c ≠ b) : ∀ (vs : List Value) (o : Nat) (w : World), (w.setCells b o vs).heap[c]? = w.heap[c]?
  | [], o, w => rfl
  | v :: vs, o, w => by
    show ((w.setCell ⟨b, o, none⟩ v).setCells b (o + 1) vs).heap[c]? = _
    rw [other_setCells h vs]
    simp only [World.setCell, Array.getElem?_modify]
    rw [if_neg (Ne.symm h)]

theorem env_setCells (b : Nat) : ∀ (vs : List Value) (o : Nat) (w : World), (w.setCells b o vs).os = w.os ∧ (w.setCells b o vs).tape = w.tape ∧ (w.setCells b o vs).output = w.output
  | [], _, _ => ⟨rfl, rfl, rfl⟩
  | v :: vs, o, w => env_setCells b vs (o + 1) (w.setCell ⟨b, o, none⟩ v)

theorem shape_setCells (b c : Nat) : ∀ (vs : List Value) (o : Nat) (w : World), (w.setCells b o vs).shape? c = w.shape? c
  | [], _, _ => rfl
  | v :: vs, o, w => by
    show ((w.setCell ⟨b, o, none⟩ v).setCells b (o + 1) vs).shape? c = _
    rw [shape_setCells b c vs]
    simp only [World.shape?, World.setCell, Array.getElem?_modify]
    by_cases h : b = c
    · subst h
      simp only [if_true]
      cases hb : w.heap[b]? with
      | none => rfl
      | some ob => cases ob <;> simp
    · rw [if_neg h]

theorem Rel.write {k : Nat} {l : Loc} {cs cs' : List AV} {es o : Nat} {ty : Option Nat} {us : List Value} {H' : Heap} (r : Rel nb ι H w) (hk : ι k = some l) (hget : H.t.get k = some (.row cs es false ty)) (hlen : es = 0 → cs'.length = cs.length)
    (hex : ∀ j, j < us.length → (w.cell? ⟨l.blk, l.off + o + j, none⟩).isSome = true)
    (hH : ∀ j, H'.t.get j = if j = k then some (.row cs' es false ty) else H.t.get j) (hn : H'.n = H.n) (hbase : H'.base = H.base)
    (hcs : ∀ i x, cs'[i]? = some x → (∃ j u, i = o + j ∧ us[j]? = some u ∧ VRel nb ι x u) ∨ (cs[i]? = some x ∧ (i < o ∨ o + us.length ≤ i))) :
    Rel nb ι H' (w.setCells l.blk (l.off + o) us) ∧ Ext nb ι H w ι H' (w.setCells l.blk (l.off + o) us) := by
  have hoth : ∀ c, c ≠ l.blk → (w.setCells l.blk (l.off + o) us).heap[c]? = w.heap[c]? := fun c hc => other_setCells hc us _ w
  have hsz := size_setCells l.blk us (l.off + o) w
  have hd := r.dom k l hk
  have hcellex : ∀ i v, w.cell? ⟨l.blk, i, none⟩ = some v → ∃ u, (w.setCells l.blk (l.off + o) us).cell? ⟨l.blk, i, none⟩ = some u := fun i v h => by
    by_cases hi : l.off + o ≤ i ∧ i < l.off + o + us.length
    · have h1 := World.cell?_setCells_in l.blk us (l.off + o) w hex (i - (l.off + o)) (by omega)
      rw [show l.off + o + (i - (l.off + o)) = i by omega] at h1
      exact ⟨_, h1⟩
    · refine ⟨v, ?_⟩
      rw [World.cell?_setCells_out l.blk us (l.off + o) w ⟨l.blk, i, none⟩ (fun _ _ => by simp only []; omega)]
      exact h
  constructor
  · refine ⟨by rw [hsz]; exact r.nbw, ?_, ?_, ?_, ?_, ?_, ?_, ?_, nb.keep w _ (fun b hb => hoth b (by have := (r.dom k l hk).1; omega)) r.inv⟩
    · intro b bs hb
      rw [hbase] at hb
      refine ⟨(r.old b bs hb).1, fun i x hx => ?_⟩
      obtain ⟨v, hv, hr⟩ := (r.old b bs hb).2 i x hx
      have hne : b ≠ l.blk := by have := (r.old b bs hb).1; omega
      exact ⟨v, by rw [cell?_of_heap (hoth b hne)]; exact hv, hr⟩
    · intro j q ds es' fz ty' hj hoj
      rw [hH] at hoj
      by_cases hjk : j = k
      · subst hjk
        rw [if_pos rfl] at hoj
        simp only [Option.some.injEq, Obj.row.injEq] at hoj
        obtain ⟨rfl, rfl, rfl, rfl⟩ := hoj
        obtain rfl : q = l := by rw [hk] at hj; simpa using hj.symm
        obtain ⟨h1, h2, h3, h4⟩ := r.row j q cs es false _ hk hget
        refine ⟨fun i x hx => ?_, fun _ i v hv => ?_, fun he i hi => ?_, fun t ht => ?_⟩
        · rcases hcs i x hx with ⟨j', u, rfl, hu, hr⟩ | ⟨hx', hout⟩
          · have hlt := (List.getElem?_eq_some_iff.1 hu).1
            have := World.cell?_setCells_in q.blk us (q.off + o) w hex j' hlt
            refine ⟨u, ?_, hr⟩
            rw [← Nat.add_assoc, this]
            have := (List.getElem?_eq_some_iff.1 hu).2
            rw [this]
          · obtain ⟨v, hv, hr⟩ := h1 i x hx'
            refine ⟨v, ?_, hr⟩
            rw [World.cell?_setCells_out q.blk us (q.off + o) w ⟨q.blk, q.off + i, none⟩ (fun _ _ => by simp only []; omega)]
            exact hv
        · rw [World.frozen?_setCells]
          by_cases hi : q.off + o ≤ i ∧ i < q.off + o + us.length
          · have := hex (i - (q.off + o)) (by omega)
            rw [show q.off + o + (i - (q.off + o)) = i by omega] at this
            obtain ⟨v', hv'⟩ := Option.isSome_iff_exists.1 this
            exact h2 rfl i v' hv'
          · rw [World.cell?_setCells_out q.blk us (q.off + o) w ⟨q.blk, i, none⟩ (fun _ _ => by simp only []; omega)] at hv
            exact h2 rfl i v hv
        · obtain ⟨v, hv⟩ := h3 he i hi
          exact hcellex _ v hv
        · obtain ⟨g0, c, g1, g2⟩ := h4 t ht
          exact ⟨g0, c, by rw [shape_setCells]; exact g1, fun he => (g2 he).trans (hlen he).symm⟩
      · rw [if_neg hjk] at hoj
        have hne : q.blk ≠ l.blk := fun e => hjk (r.inj j k q l _ _ hj hk hoj hget e)
        obtain ⟨h1, h2, h3, h4⟩ := r.row j q ds es' fz ty' hj hoj
        refine ⟨fun i x hx => ?_, fun hf i v hv => ?_, fun he i hi => ?_, h4.of_heap (hoth _ hne)⟩
        · obtain ⟨v, hv, hr⟩ := h1 i x hx
          exact ⟨v, by rw [cell?_of_heap (hoth _ hne)]; exact hv, hr⟩
        · rw [cell?_of_heap (hoth _ hne)] at hv
          rw [frozen?_of_heap (hoth _ hne)]
          exact h2 hf i v hv
        · obtain ⟨v, hv⟩ := h3 he i hi
          exact ⟨v, by rw [cell?_of_heap (hoth _ hne)]; exact hv⟩
    · intro j q s pos hj hoj
      rw [hH] at hoj
      by_cases hjk : j = k
      · rw [if_pos hjk] at hoj; simp at hoj
      · rw [if_neg hjk] at hoj
        have hne : q.blk ≠ l.blk := fun e => hjk (r.inj j k q l _ _ hj hk hoj hget e)
        obtain ⟨h0, b, hb1, hb2⟩ := r.iter j q s pos hj hoj
        exact ⟨h0, b, hb1, by rw [hoth _ hne]; exact hb2⟩
    · intro j q hj
      rw [hsz, hn]
      exact r.dom j q hj
    · intro j j' q q' o1 o2 hj hj' h1 h2 hb
      rw [hH] at h1 h2
      have f : ∀ (j : Nat) (o1 : Lite.Obj), (if j = k then some (Obj.row cs' es false ty) else H.t.get j) = some o1 → ∃ o2, H.t.get j = some o2 := fun j o1 h => by
        by_cases e : j = k
        · subst e; exact ⟨_, hget⟩
        · rw [if_neg e] at h; exact ⟨_, h⟩
      obtain ⟨p1, e1⟩ := f j o1 h1
      obtain ⟨p2, e2⟩ := f j' o2 h2
      exact r.inj j j' q q' p1 p2 hj hj' e1 e2 hb
    · intro j o1 h1
      rw [hH] at h1
      rw [hn]
      by_cases e : j = k
      · subst e; exact hd.2.2
      · rw [if_neg e] at h1; exact r.lt j o1 h1
    · intro b c hc
      obtain ⟨g1, g2, g3⟩ := r.fz b c hc
      have hne : b ≠ l.blk := fun e => by
        obtain ⟨_, _, _, e2⟩ := g3 k l _ hk hget e.symm
        simp at e2
      refine ⟨by rw [hsz]; exact g1, fun i => by rw [cell?_of_heap (hoth b hne)]; exact g2 i, fun j q o1 hj hoj hb => ?_⟩
      rw [hH] at hoj
      by_cases e : j = k
      · subst e
        rw [hk] at hj
        simp only [Option.some.injEq] at hj
        subst hj
        exact absurd hb.symm hne
      · rw [if_neg e] at hoj
        exact g3 j q o1 hj hoj hb
  · refine ⟨Emb.le_refl ι, by rw [hsz]; exact Nat.le_refl _, fun b hb hc => ?_, fun j q hj _ => ⟨j, q, hj, rfl⟩, fun _ _ h => .inl h, by rw [hn]; exact Nat.le_refl _, fun j _ hj => ?_, hbase, env_setCells l.blk us _ w, fun _ _ h => .inl h⟩
    · refine hoth b ?_
      rcases hc with hc | hc
      · omega
      · exact fun e => hc k l hk e.symm
    · rw [hH]
      rw [if_neg]
      rintro rfl
      rw [hk] at hj; cases hj

/-- It comes to a value, having written. -/
def Writes1 (P : Program) (nb : NB) (ι : Emb) (H : Heap) (w : World) (s : Sem Next) (z : AV) (H' : Heap) : Prop :=
  ∃ v w' ι' q, s.run P w = .ok q w' ∧ (q = .value v ∨ (q = .skip ∧ v = undef)) ∧ VRel nb ι' z v ∧ Rel nb ι' H' w' ∧ Ext nb ι H w ι' H' w'

theorem putAt_get {cs vs : List AV} {o : Nat} (h : o + vs.length ≤ cs.length) (i : Nat) (x : AV) (hx : (putAt cs o vs)[i]? = some x) :
    (∃ j, i = o + j ∧ vs[j]? = some x) ∨ (cs[i]? = some x ∧ (i < o ∨ o + vs.length ≤ i)) := by
  unfold putAt at hx
  have ht : (cs.take o).length = o := by rw [List.length_take]; omega
  by_cases h1 : i < o
  · rw [List.append_assoc, List.getElem?_append_left (by omega), List.getElem?_take_of_lt h1] at hx
    exact .inr ⟨hx, .inl h1⟩
  · by_cases h2 : i < o + vs.length
    · rw [List.append_assoc, List.getElem?_append_right (by omega), List.getElem?_append_left (by omega), ht] at hx
      exact .inl ⟨i - o, by omega, hx⟩
    · rw [List.getElem?_append_right (by simp [ht]; omega), List.getElem?_drop] at hx
      simp only [List.length_append, ht] at hx
      rw [show o + vs.length + (i - (o + vs.length)) = i by omega] at hx
      exact .inr ⟨hx, .inr (by omega)⟩

/-- A store into a block. -/
theorem st_sound (r : Rel nb ι H w) {p : Blk} {o : Nat} {l : Loc} {vs : List AV} {us : List Value} {H' : Heap} (hl : locOf nb ι p l) (hvs : VRels nb ι vs us) (h : H.st p o vs = some H') :
    (∀ j, j < us.length → (w.cell? ⟨l.blk, l.off + o + j, none⟩).isSome = true ∧ w.frozen? ⟨l.blk, l.off + o + j, none⟩ = false) ∧
    Rel nb ι H' (w.setCells l.blk (l.off + o) us) ∧ Ext nb ι H w ι H' (w.setCells l.blk (l.off + o) us) := by
  cases p with
  | old b => simp [Heap.st] at h
  | val b => simp [Heap.st] at h
  | new k =>
    simp only [Heap.st] at h
    split at h
    case h_2 => cases h
    rename_i cs es ty hget
    split at h
    case isFalse => cases h
    rename_i hle
    simp only [Option.some.injEq] at h; subst h
    obtain ⟨h1, h2, h3, h4⟩ := r.row k l cs es false ty hl hget
    have hul := hvs.length
    have hex : ∀ j, j < us.length → ∃ v, w.cell? ⟨l.blk, l.off + o + j, none⟩ = some v := fun j hj => by
      obtain ⟨v, hv, _⟩ := h1 (o + j) (cs[o + j]'(by omega)) (List.getElem?_eq_getElem _)
      exact ⟨v, by rw [Nat.add_assoc]; exact hv⟩
    refine ⟨fun j hj => ?_, ?_⟩
    · obtain ⟨v, hv⟩ := hex j hj
      exact ⟨by rw [hv]; rfl, h2 rfl _ v hv⟩
    · refine r.write hl hget (fun _ => by unfold putAt; simp; omega) (fun j hj => by obtain ⟨v, hv⟩ := hex j hj; rw [hv]; rfl) (cs' := putAt cs o vs) (fun j => by simp only [Heap.put, T.get_set]) rfl rfl fun i x hx => ?_
      rcases putAt_get hle i x hx with ⟨j, rfl, hj⟩ | ⟨hx', hout⟩
      · obtain ⟨u, hu, hr⟩ := hvs.get j x hj
        exact .inl ⟨j, u, rfl, hu, hr⟩
      · exact .inr ⟨hx', by omega⟩

end Go.Lite
