/-
  An append, a step of an iterator: in the model and by the interpreter.
-/
import Derived.Test.YtibjdfajafilhaaLOpsW
namespace Go.Lite
open Go
set_option linter.unusedSimpArgs false
set_option linter.unusedVariables false

variable {P : Program} {nb : NB} {ι : Emb} {H : Heap} {w : World} {fr : Fr} {a : Act} {nt : Nat}

theorem Rel.del (r : Rel nb ι H w) (k : Nat) : Rel nb ι (H.del k) w where
  nbw := r.nbw
  inv := r.inv
  old := r.old
  row j l cs es fz ty hj ho := by
    simp only [Heap.del, T.get_del] at ho
    split at ho
    · cases ho
    · exact r.row j l cs es fz ty hj ho
  iter j l s pos hj ho := by
    simp only [Heap.del, T.get_del] at ho
    split at ho
    · cases ho
    · exact r.iter j l s pos hj ho
  dom := r.dom
  inj j j' l l' o1 o2 hj hj' h1 h2 hb := by
    simp only [Heap.del, T.get_del] at h1 h2
    split at h1
    · cases h1
    split at h2
    · cases h2
    exact r.inj j j' l l' o1 o2 hj hj' h1 h2 hb
  lt j o1 h := by
    simp only [Heap.del, T.get_del] at h ⊢
    split at h
    · cases h
    · exact r.lt j o1 h
  fz b c hc := by
    obtain ⟨g1, g2, g3⟩ := r.fz b c hc
    refine ⟨g1, g2, fun j l o1 hj ho hb => ?_⟩
    simp only [Heap.del, T.get_del] at ho
    split at ho
    · cases ho
    · exact g3 j l o1 hj ho hb

/-- A block takes another number, and begins further on. -/
theorem Rel.rename {k o es : Nat} {l : Loc} {cs : List AV} {ty ty2 : Option Nat} {H' : Heap} (r : Rel nb ι H w) (hk : ι k = some l) (hget : H.t.get k = some (.row cs es false ty)) (hty : ∀ t, ty2 = some t → o = 0 ∧ ty = some t) (ho : o ≤ cs.length)
    (hlim : es ≠ 0 → o ≤ l.lim)
    (hH : ∀ j, H'.t.get j = if j = H.n then some (.row (cs.drop o) es false ty2) else if j = k then none else H.t.get j) (hn : H'.n = H.n + 1) (hbase : H'.base = H.base) :
    Rel nb (ι.put H.n ⟨l.blk, l.off + o, l.lim - o⟩) H' w ∧ Ext nb ι H w (ι.put H.n ⟨l.blk, l.off + o, l.lim - o⟩) H' w := by
  have hnone : ι H.n = none := by
    cases h : ι H.n with
    | none => rfl
    | some q => have := (r.dom _ _ h).2.2; omega
  have hle : ι.le (ι.put H.n ⟨l.blk, l.off + o, l.lim - o⟩) := Emb.le_put hnone
  have hd := r.dom k l hk
  obtain ⟨g1, g2, g3, g4⟩ := r.row k l cs es false ty hk hget
  constructor
  · refine ⟨r.nbw, ?_, ?_, ?_, ?_, ?_, ?_, ?_, r.inv⟩
    · intro b bs hb
      rw [hbase] at hb
      refine ⟨(r.old b bs hb).1, fun i x hx => ?_⟩
      obtain ⟨v, hv, hr⟩ := (r.old b bs hb).2 i x hx
      exact ⟨v, hv, hr⟩
    · intro j q ds es' fz ty' hj hoj
      rw [hH] at hoj
      simp only [Emb.put_at] at hj
      by_cases hjn : j = H.n
      · rw [if_pos hjn] at hj hoj
        simp only [Option.some.injEq, Obj.row.injEq] at hj hoj
        obtain ⟨rfl, rfl, rfl, rfl⟩ := hoj
        subst hj
        refine ⟨fun i x hx => ?_, fun hf i v hv => g2 hf i v hv, fun he i hi => ?_, fun t ht => ?_⟩
        · rw [List.getElem?_drop] at hx
          obtain ⟨v, hv, hr⟩ := g1 _ x hx
          exact ⟨v, by simp only [Nat.add_assoc]; exact hv, hr.mono hle⟩
        · have := hlim he
          simp only [] at hi
          obtain ⟨v, hv⟩ := g3 he (o + i) (by omega)
          exact ⟨v, by simp only [Nat.add_assoc]; exact hv⟩
        · obtain ⟨h0, h1⟩ := hty t ht
          obtain ⟨q0, c, q1, q2⟩ := g4 t h1
          exact ⟨by simp only []; omega, c, q1, fun he => by rw [q2 he, h0]; rfl⟩
      · rw [if_neg hjn] at hj hoj
        split at hoj
        · cases hoj
        · obtain ⟨h1, h2, h3, h4⟩ := r.row j q ds es' fz ty' hj hoj
          refine ⟨fun i x hx => ?_, h2, h3, h4⟩
          obtain ⟨v, hv, hr⟩ := h1 i x hx
          exact ⟨v, hv, hr.mono hle⟩
    · intro j q s pos hj hoj
      rw [hH] at hoj
      simp only [Emb.put_at] at hj
      by_cases hjn : j = H.n
      · rw [if_pos hjn] at hoj; simp at hoj
      · rw [if_neg hjn] at hj hoj
        split at hoj
        · cases hoj
        · exact r.iter j q s pos hj hoj
    · intro j q hj
      simp only [Emb.put_at] at hj
      rw [hn]
      by_cases hjn : j = H.n
      · rw [if_pos hjn] at hj
        simp only [Option.some.injEq] at hj
        subst hj
        exact ⟨hd.1, hd.2.1, by omega⟩
      · rw [if_neg hjn] at hj
        have := r.dom j q hj
        exact ⟨this.1, this.2.1, by omega⟩
    · intro j j' q q' o1 o2 hj hj' h1 h2 hb
      rw [hH] at h1 h2
      simp only [Emb.put_at] at hj hj'
      by_cases e1 : j = H.n <;> by_cases e2 : j' = H.n
      · omega
      · rw [if_pos e1] at hj
        rw [if_neg e2] at hj' h2
        simp only [Option.some.injEq] at hj
        subst hj
        split at h2
        · cases h2
        · rename_i hne
          exact absurd (r.inj j' k q' l _ _ hj' hk h2 hget hb.symm) hne
      · rw [if_neg e1] at hj h1
        rw [if_pos e2] at hj'
        simp only [Option.some.injEq] at hj'
        subst hj'
        split at h1
        · cases h1
        · rename_i hne
          exact absurd (r.inj j k q l _ _ hj hk h1 hget hb) hne
      · rw [if_neg e1] at hj h1
        rw [if_neg e2] at hj' h2
        split at h1
        · cases h1
        split at h2
        · cases h2
        exact r.inj j j' q q' o1 o2 hj hj' h1 h2 hb
    · intro j o1 h1
      rw [hH] at h1
      rw [hn]
      by_cases e1 : j = H.n
      · omega
      · rw [if_neg e1] at h1
        split at h1
        · cases h1
        · have := r.lt j o1 h1; omega
    · intro b c hc
      obtain ⟨k1, k2, k3⟩ := r.fz b c hc
      refine ⟨k1, k2, fun j q o1 hj hoj hb => ?_⟩
      rw [hH] at hoj
      simp only [Emb.put_at] at hj
      by_cases hjn : j = H.n
      · rw [if_pos hjn] at hj
        simp only [Option.some.injEq] at hj
        subst hj
        obtain ⟨_, _, _, e2⟩ := k3 k l _ hk hget hb
        simp at e2
      · rw [if_neg hjn] at hj hoj
        split at hoj
        · cases hoj
        · exact k3 j q o1 hj hoj hb
  · refine ⟨hle, Nat.le_refl _, fun _ _ _ => rfl, fun j q hj _ => ?_, fun j q hj => ?_, by omega, fun j hj hjn => ?_, hbase, ⟨rfl, rfl, rfl⟩, fun _ _ h => .inl h⟩
    · simp only [Emb.put_at] at hj
      by_cases hjn : j = H.n
      · rw [if_pos hjn] at hj
        simp only [Option.some.injEq] at hj
        subst hj
        exact ⟨k, l, hk, rfl⟩
      · rw [if_neg hjn] at hj
        exact ⟨j, q, hj, rfl⟩
    · simp only [Emb.put_at] at hj
      by_cases hjn : j = H.n
      · right; omega
      · rw [if_neg hjn] at hj; exact .inl hj
    · rw [hH, if_neg (by omega), if_neg]
      rintro rfl
      rw [hk] at hjn; cases hjn

/-! ### append -/

theorem taken_sound (r : Rel nb ι H w) {tx : TypeId} {size n : Nat} {x : AV} {u : Value} {cs : List AV} (hk : (∃ e', P.underlying tx = some (.slice e')) ∨ P.underlying tx = some .string)
    (hx : VRel nb ι x u) (h : taken size H x = some (n, cs)) (hfl : cs.all AV.flat = true) : ∃ news : List Value, VRels nb ι cs news ∧ Src P size tx u n news w := by
  unfold taken at h
  have hcast : ∀ {news : List Value} {v : Value} {m : Nat}, (∀ tx', (∃ e', P.underlying tx' = some (.slice e')) → Src P size tx' v m news w) → True := fun _ => trivial
  cases x <;> simp only [Option.some.injEq, Prod.mk.injEq, reduceCtorEq, Option.map_eq_some_iff] at h
  case nils =>
    obtain ⟨rfl, rfl⟩ := h
    simp only [VRel] at hx; subst hx
    refine ⟨[], by simp [VRels], ⟨hk, fun _ => rfl, by simp [Builtin.firstCells], by simp [Builtin.firstCells], by simp, fun _ h => by cases h⟩⟩
  case emp =>
    obtain ⟨rfl, rfl⟩ := h
    simp only [VRel] at hx
    obtain ⟨q, cap, rfl⟩ := hx
    refine ⟨[], by simp [VRels], ⟨hk, fun _ => rfl, by simp [Builtin.firstCells, loadCells, loadCellsFrom], by simp [Builtin.firstCells, loadCells, loadCellsFrom], by simp, fun _ h => by cases h⟩⟩
  case slice p o m c =>
    obtain ⟨bs, hb, rfl, rfl⟩ := h
    simp only [VRel] at hx
    obtain ⟨l, cap, hl, rfl, _, _⟩ := hx
    obtain ⟨_, us, hul, hrange, hus⟩ := ldn_sound r hl hb
    refine ⟨us, hus, ⟨hk, fun _ => rfl, run_firstCells_some w size m _ m cap us hul (fun j v hv => by rw [Addr.add_mid]; exact hrange j v hv), run_firstCells_some w.drew size m _ m cap us hul (fun j v hv => by rw [Addr.add_mid]; simpa using hrange j v hv), hul, hus.flat hfl⟩⟩
  case str s =>
    split at h
    case isFalse => cases h
    rename_i h1
    subst h1
    simp only [Option.some.injEq, Prod.mk.injEq] at h
    obtain ⟨rfl, rfl⟩ := h
    simp only [VRel] at hx
    obtain ⟨b, rfl, hb⟩ := hx
    have hbl : b.size = s.length := by rw [Lib.size_eq, ← hb, List.length_map]
    have hs : VRels nb ι (s.map fun (b : Nat) => AV.int .u8 (b : Int)) (byteCells b) := by
      refine VRels.of_get (by rw [byteCells_length]; simp [hbl]) fun i x v hx hv => ?_
      unfold byteCells at hv
      unfold bytesRel at hb
      rw [← hb] at hx
      simp only [List.map_map, List.getElem?_map, Option.map_eq_some_iff] at hx hv
      obtain ⟨c, hc, rfl⟩ := hx
      obtain ⟨c', hc', rfl⟩ := hv
      rw [hc] at hc'
      simp only [Option.some.injEq] at hc'
      subst hc'
      simp only [VRel, Function.comp]
    refine ⟨byteCells b, hs, ⟨hk, fun _ => by simp [Builtin.lenOf, hbl], ?_, ?_, by rw [byteCells_length, hbl, Nat.mul_one], fun u hu => by
      obtain ⟨_, _, rfl⟩ := List.mem_map.1 hu
      rfl⟩⟩
    · rw [← hbl]; exact firstCells_string b w
    · rw [← hbl]; exact firstCells_string b w.drew
  case lst es m f ds =>
    split at h
    case isFalse => cases h
    rename_i hes
    simp only [Option.some.injEq, Prod.mk.injEq] at h
    obtain ⟨rfl, rfl⟩ := h
    simp only [VRel] at hx
    obtain ⟨g0, a0, cap, rfl, g1, g2, g3, g4⟩ := hx
    by_cases hm : m = 0
    · subst hm
      simp only [Nat.zero_mul] at g0
      obtain rfl := List.eq_nil_of_length_eq_zero g0
      cases a0 with
      | none => refine ⟨[], by simp [VRels], ⟨hk, fun _ => rfl, by simp [Builtin.firstCells], by simp [Builtin.firstCells], by simp, fun _ h => by cases h⟩⟩
      | some q => refine ⟨[], by simp [VRels], ⟨hk, fun _ => rfl, by simp [Builtin.firstCells, loadCells, loadCellsFrom], by simp [Builtin.firstCells, loadCells, loadCellsFrom], by simp, fun _ h => by cases h⟩⟩
    · obtain rfl := hes.resolve_right hm
      obtain ⟨b, o, us, rfl, k1, c0, k2, k3⟩ := g4 hm
      have hul : us.length = m * es := by rw [k1.length]; exact g0
      have hus := VRels.mono ι.bare_le _ _ k1
      have hr : ∀ j v, us[j]? = some v → w.cell? ⟨b, o + j, none⟩ = some v := r.held ⟨c0, k2, k3⟩
      refine ⟨us, hus, ⟨hk, fun _ => rfl, run_firstCells_some w es m _ m cap us hul (fun j v hv => by rw [Addr.add_mid]; exact hr j v hv), run_firstCells_some w.drew es m _ m cap us hul (fun j v hv => by rw [Addr.add_mid]; simpa using hr j v hv), hul, hus.flat hfl⟩⟩

/-- nothing is appended -/
theorem run_append_none {t tx ty e : TypeId} {i : TypeInfo} (ht : P.underlying t = some (.slice e)) (hi : P.info? e = some i) {base : Option Addr} {sLen sCap : Nat} (hle : sLen ≤ sCap) {x : Value} (hs : Src P i.size tx x 0 [] w) :
    (Builtin.append_ #[t, tx] ty #[.slice base sLen sCap, x]).run P w = .ok (.slice base sLen sCap) w := by
  rcases hs.kind with ⟨e', hk⟩ | hk <;> cases base <;> simp [Builtin.append_, run_underlying ht, run_underlying hk, sizeOf, typeInfo, hi, hs.len, hle, hs.cells, storeCells]

/-- a new row -/
theorem fresh_sound (r : Rel nb ι H w) {e size need cap : Nat} {ty : Option Nat} (hty : ∀ t, ty = some t → t = e) {cs : List AV} {us : List Value} {z : Array Value} {w' : World} (hcs : VRels nb ι cs us) (hsz : z.size = size) (hs0 : size ≠ 0) (hcap : need ≤ cap)
    (hlen : us.length = need * size) (hw : Turned w w' (w.heap.push (.cells (us.toArray ++ Builtin.zeroCells z (cap - need)) e))) :
    ∃ ι', VRel nb ι' (H.fresh size need ty cs).1 (.slice (some ⟨w.heap.size, 0, none⟩) need cap) ∧ Rel nb ι' (H.fresh size need ty cs).2 w' ∧ Ext nb ι H w ι' (H.fresh size need ty cs).2 w' := by
  have hnone : ι H.n = none := by
    cases h : ι H.n with
    | none => rfl
    | some q => have := (r.dom _ _ h).2.2; omega
  have hnone' : (H.push (.row cs size false ty)).t.get H.n = some (.row cs size false ty) := by simp [Heap.push, T.get_set]
  have hmul : cap * size = need * size + (cap - need) * size := by rw [← Nat.add_mul]; congr 1; omega
  have hborn : Born nb ι ⟨w.heap.size, 0, cap * size⟩ (.row cs size false ty) (.cells (us.toArray ++ Builtin.zeroCells z (cap - need)) e) := by
    refine ⟨_, _, _, rfl, fun i x hx => ?_, fun _ i _ h => by simp at h, fun _ => ?_, fun t ht => ⟨rfl, hty t ht, fun h => absurd h hs0⟩⟩
    · obtain ⟨v, hv, hr⟩ := hcs.get i x hx
      have hlt := (List.getElem?_eq_some_iff.1 hv).1
      refine ⟨v, ?_, hr⟩
      simp only [Nat.zero_add]
      rw [Array.getElem?_append_left (by simpa using hlt)]
      simpa using hv
    · simp only [Array.size_append, List.size_toArray, size_zeroCells, hlen, hsz]
      omega
  refine ⟨ι.put H.n ⟨w.heap.size, 0, cap * size⟩, ?_, ?_, ?_⟩
  · simp only [Heap.fresh, VRel, locOf]
    exact ⟨_, cap, Emb.put_same, rfl, hcap, .inr (by simp)⟩
  · exact (r.push _).born hnone hnone' hw.heap rfl hborn
  · exact Ext.born r hnone hw rfl (Nat.le_refl _) (by simp [Heap.fresh, Heap.push]) (fun j hj => by simp only [Heap.fresh, Heap.push, T.get_set]; rw [if_neg (by omega)]) rfl

theorem append_sound (r : Rel nb ι H w) {t tx ty e : TypeId} {i : TypeInfo} {zs : List AV} {s z : AV} {sv xv : Value} {n : Nat} {cs : List AV} {news : List Value} {H' : Heap} (ht : P.underlying t = some (.slice e)) (hi : P.info? e = some i)
    (hzs : zeroT P e = some zs) (hs : VRel nb ι s sv) (hns : VRels nb ι cs news) (hsrc : Src P i.size tx xv n news w) (h : appendOf e i.size i.bytes H s (n, cs) = some (z, H')) :
    ∃ v w' ι', (Builtin.append_ #[t, tx] ty #[sv, xv]).run P w = .ok v w' ∧ VRel nb ι' z v ∧ Rel nb ι' H' w' ∧ Ext nb ι H w ι' H' w' := by
  obtain ⟨i', zv, hi', hzv, hsz, _⟩ := zeroT_spec hzs
  obtain rfl : i' = i := by rw [hi] at hi'; simpa using hi'.symm
  unfold appendOf at h
  split at h
  · cases h
  rename_i hcond
  have hs0 : i'.size ≠ 0 := fun e => hcond (.inl e)
  have hnl : news.length = n * i'.size := hsrc.newsLen
  have hcl : cs.length = n * i'.size := by rw [← hns.length]; exact hnl
  have hnil : n = 0 → news = [] := fun e => by subst e; exact List.eq_nil_of_length_eq_zero (by simpa using hnl)
  split at h
  · -- nils
    simp only [VRel] at hs; subst hs
    by_cases hn : n = 0
    · simp only [hn, if_true, Option.some.injEq, Prod.mk.injEq] at h
      obtain ⟨rfl, rfl⟩ := h
      have he := hnil hn
      subst hn; subst he
      exact ⟨_, w, ι, run_append_none ht hi (Nat.le_refl _) hsrc, by simp only [VRel], r, Ext.refl⟩
    · simp only [hn, if_false] at h
      split at h
      case isFalse => cases h
      rename_i hb
      simp only [Option.some.injEq] at h
      have hfit : Builtin.nextslicecap (0 + n) 0 * i'.bytes ≤ 281474976710656 := growslice_fits (by omega) (by simp; omega)
      have hrun := run_append_grow_src (P := P) w t tx ty e i' zv ht hi hzv none 0 0 [] (by simp [Builtin.firstCells]) xv n news hsrc (by omega) (by omega) hfit
      obtain ⟨ι', h1, h2, h3⟩ := fresh_sound r (e := e) (ty := some e) (fun t ht => by simpa using ht.symm) (need := n) (cap := grownCap w (0 + n) 0 e) (w' := w.drew.alloc (.cells (news.toArray ++ Builtin.zeroCells zv.cells (grownCap w (0 + n) 0 e - n)) e)) hns hsz hs0 (by have := grownCap_ge w (0 + n) 0 e; omega) hnl rfl
      rw [h] at h1 h2 h3
      exact ⟨_, _, ι', hrun, by simpa using h1, by simpa using h2, by simpa using h3⟩
  · -- emp
    split at h
    case isFalse => cases h
    rename_i hn
    simp only [] at hn
    simp only [Option.some.injEq, Prod.mk.injEq] at h
    obtain ⟨rfl, rfl⟩ := h
    have he := hnil hn
    subst hn; subst he
    have hs' := hs
    simp only [VRel] at hs
    obtain ⟨q, cap, rfl⟩ := hs
    exact ⟨_, w, ι, run_append_none ht hi (Nat.zero_le _) hsrc, hs', r, Ext.refl⟩
  · rename_i p o m c
    have hs' := hs
    simp only [VRel] at hs
    obtain ⟨l, cap, hl, rfl, hmc, hcap⟩ := hs
    by_cases hn : n = 0
    · simp only [hn, if_true, Option.some.injEq, Prod.mk.injEq] at h
      obtain ⟨rfl, rfl⟩ := h
      have he := hnil hn
      subst hn; subst he
      exact ⟨_, w, ι, run_append_none ht hi hmc hsrc, hs', r, Ext.refl⟩
    simp only [hn, if_false] at h
    split at h
    case isFalse => cases h
    rename_i hb
    obtain ⟨hb1, hb2⟩ := hb
    have hgrow : ∀ {H0 : Heap} {ty0 : Option Nat} (hty0 : ∀ t, ty0 = some t → t = e) (r0 : Rel nb ι H0 w) (olds : List AV) (us : List Value), VRels nb ι olds us → us.length = m * i'.size → w.rangeAt l.blk (l.off + o) us → cap < m + n →
        ∃ v w' ι', (Builtin.append_ #[t, tx] ty #[.slice (some ⟨l.blk, l.off + o, none⟩) m cap, xv]).run P w = .ok v w' ∧ VRel nb ι' (H0.fresh i'.size (m + n) ty0 (olds ++ cs)).1 v ∧ Rel nb ι' (H0.fresh i'.size (m + n) ty0 (olds ++ cs)).2 w' ∧ Ext nb ι H0 w ι' (H0.fresh i'.size (m + n) ty0 (olds ++ cs)).2 w' := by
      intro H0 ty0 hty0 r0 olds us hus hul hrange hlt
      have hfit : Builtin.nextslicecap (m + n) cap * i'.bytes ≤ 281474976710656 := growslice_fits hlt (by omega)
      have hold : (Builtin.firstCells i'.size m (.slice (some ⟨l.blk, l.off + o, none⟩) m cap)).run P w.drew = .ok us.toArray w.drew :=
        run_firstCells_some w.drew i'.size m _ m cap us hul (fun j v hv => by rw [Addr.add_mid]; simpa using hrange j v hv)
      have hrun := run_append_grow_src (P := P) w t tx ty e i' zv ht hi hzv (some ⟨l.blk, l.off + o, none⟩) m cap us hold xv n news hsrc hlt (by omega) hfit
      obtain ⟨ι', h1, h2, h3⟩ := fresh_sound r0 (e := e) hty0 (need := m + n) (cap := grownCap w (m + n) cap e) (w' := w.drew.alloc (.cells ((us ++ news).toArray ++ Builtin.zeroCells zv.cells (grownCap w (m + n) cap e - (m + n))) e)) (hus.append hns) hsz hs0 (grownCap_ge w (m + n) cap e) (by rw [List.length_append, hul, hnl, Nat.add_mul]) rfl
      exact ⟨_, _, ι', hrun, h1, h2, h3⟩
    cases c with
    | fix c e0 =>
      simp only [capRel] at hcap
      subst hcap
      simp only [] at h
      split at h
      · rename_i hroom
        simp only [Option.map_eq_some_iff, Prod.mk.injEq] at h
        obtain ⟨H1, hst, rfl, rfl⟩ := h
        obtain ⟨g1, g2, g3⟩ := st_sound r hl hns hst
        have hrun := run_append_room_src (P := P) w t tx ty e i' ht hi l.blk (l.off + o) m cap xv n news hsrc hroom (fun j hj => by have := (g1 j hj).1; rw [show l.off + (o + m * i'.size) + j = l.off + o + m * i'.size + j by omega] at this; exact this)
          (fun j hj => by have := (g1 j hj).2; rw [show l.off + (o + m * i'.size) + j = l.off + o + m * i'.size + j by omega] at this; exact this)
        rw [show l.off + o + m * i'.size = l.off + (o + m * i'.size) by omega] at hrun
        exact ⟨_, _, ι, hrun, by simp only [VRel, capRel]; exact ⟨l, cap, hl, rfl, hroom, rfl⟩, g2, g3⟩
      · rename_i hroom
        simp only [Option.map_eq_some_iff] at h
        obtain ⟨olds, hol, h⟩ := h
        obtain ⟨_, us, hul, hrange, hus⟩ := ldn_sound r hl hol
        obtain ⟨v, w', ι', h1, h2, h3, h4⟩ := hgrow (ty0 := some e) (fun t ht => by simpa using ht.symm) r olds us hus hul hrange (by omega)
        rw [h] at h2 h3 h4
        exact ⟨v, w', ι', h1, h2, h3, h4⟩
    | gro es =>
      simp only [] at h
      split at h
      case isFalse => cases h
      rename_i hes
      subst hes
      split at h
      · cases h
      · cases h
      rename_i k
      split at h
      case h_2 => cases h
      rename_i bs es' ty0 hget
      split at h
      case isFalse => cases h
      rename_i hc
      obtain ⟨rfl, hend⟩ := hc
      simp only [Option.some.injEq] at h
      simp only [locOf] at hl
      simp only [capRel] at hcap
      have hcap' : o + cap * i'.size ≤ l.lim := hcap.resolve_left hs0
      obtain ⟨g1, g2, g3, g4⟩ := r.row k l bs i'.size false ty0 hl hget
      by_cases hroom : m + n ≤ cap
      · -- in place
        have hmul : (m + n) * i'.size ≤ cap * i'.size := Nat.mul_le_mul_right _ hroom
        rw [Nat.add_mul] at hmul
        have hex : ∀ j, j < news.length → ∃ v, w.cell? ⟨l.blk, l.off + (o + m * i'.size) + j, none⟩ = some v := fun j hj => by
          obtain ⟨v, hv⟩ := g3 hs0 (o + m * i'.size + j) (by omega)
          exact ⟨v, by rw [Nat.add_assoc]; exact hv⟩
        have hrun := run_append_room_src (P := P) w t tx ty e i' ht hi l.blk (l.off + o) m cap xv n news hsrc hroom
          (fun j hj => by obtain ⟨v, hv⟩ := hex j hj; rw [show l.off + (o + m * i'.size) + j = l.off + o + m * i'.size + j by omega] at hv; rw [hv]; rfl)
          (fun j hj => by obtain ⟨v, hv⟩ := hex j hj; rw [show l.off + (o + m * i'.size) + j = l.off + o + m * i'.size + j by omega] at hv; exact g2 rfl _ v hv)
        rw [show l.off + o + m * i'.size = l.off + (o + m * i'.size) by omega] at hrun
        obtain ⟨q1, q2⟩ := r.write (H' := H.put k (.row (bs ++ cs) i'.size false ty0)) (cs' := bs ++ cs) hl hget (fun h => absurd h hs0) (fun j hj => by obtain ⟨v, hv⟩ := hex j hj; rw [hv]; rfl) (fun j => by simp only [Heap.put, T.get_set]) rfl rfl (fun j x hx => by
          by_cases hj : j < bs.length
          · rw [List.getElem?_append_left hj] at hx
            exact .inr ⟨hx, by omega⟩
          · rw [List.getElem?_append_right (by omega)] at hx
            obtain ⟨u, hu, hr⟩ := hns.get _ _ hx
            exact .inl ⟨j - bs.length, u, by omega, hu, hr⟩)
        obtain ⟨q3, q4⟩ := q1.rename (k := k) (o := o) (es := i'.size) (cs := bs ++ cs) (H' := ((H.del k).fresh i'.size (m + n) (tyKeep e o ty0) (bs.drop o ++ cs)).2) (ty := ty0) (ty2 := tyKeep e o ty0) hl (by simp [Heap.put, T.get_set]) (fun t ht => by obtain ⟨a1, a2, a3⟩ := tyKeep_spec ht; exact ⟨a2, by rw [a1]; exact a3⟩) (by simp; omega) (fun _ => by omega) (fun j => by
            simp only [Heap.fresh, Heap.push, Heap.del, Heap.put, T.get_set, T.get_del]
            rw [List.drop_append_of_le_length (by omega)]
            by_cases e1 : j = H.n
            · rw [if_pos e1, if_pos e1]
            · rw [if_neg e1, if_neg e1]
              by_cases e2 : j = k
              · rw [if_pos e2, if_pos e2]
              · rw [if_neg e2, if_neg e2, if_neg e2]) rfl rfl
        have e1 := congrArg Prod.fst h
        have e2 := congrArg Prod.snd h
        simp only [] at e1 e2
        rw [← e1, ← e2]
        refine ⟨_, _, _, hrun, ?_, q3, q2.trans q4⟩
        simp only [Heap.fresh, VRel, locOf, Heap.del]
        refine ⟨_, cap, Emb.put_same, by simp, hroom, .inr ?_⟩
        simp only []
        omega
      · obtain ⟨us, hus, hul, hrange⟩ : ∃ us : List Value, VRels nb ι (bs.drop o) us ∧ us.length = m * i'.size ∧ w.rangeAt l.blk (l.off + o) us := by
          have hld : H.ldn (.new k) o (m * i'.size) = some (bs.drop o) := by
            have hlen : (bs.drop o).length = m * i'.size := by rw [List.length_drop]; omega
            have ht' : (bs.drop o).take (m * i'.size) = bs.drop o := by rw [← hlen]; exact List.take_length
            simp only [Heap.ldn, Heap.cells, hget, Obj.cells, Option.bind_some, ht', hlen, if_true]
          obtain ⟨_, us, hul, hrange, hus⟩ := ldn_sound (p := .new k) r hl hld
          exact ⟨us, hus, hul, hrange⟩
        obtain ⟨v, w', ι', h1, h2, h3, h4⟩ := hgrow (ty0 := tyKeep e o ty0) (fun t ht => (tyKeep_spec ht).1) (r.del k) (bs.drop o) us hus hul hrange (by omega)
        have e1 := congrArg Prod.fst h
        have e2 := congrArg Prod.snd h
        simp only [] at e1 e2
        rw [← e1, ← e2]
        refine ⟨v, w', ι', h1, h2, h3, ⟨h4.le, h4.size, h4.kept, h4.rng, h4.fresh, h4.n, fun j hj hjn => ?_, h4.base, h4.env, h4.frz⟩⟩
        rw [h4.unborn j hj hjn]
        simp only [Heap.del, T.get_del]
        rw [if_neg]
        rintro rfl
        rw [hl] at hjn; cases hjn
  · -- content
    rename_i es0 m f olds
    have hs' := hs
    simp only [VRel] at hs
    obtain ⟨g0, a0, cap, rfl, g1, g2, g3, g4⟩ := hs
    by_cases hn : n = 0
    · simp only [hn, if_true, Option.some.injEq, Prod.mk.injEq] at h
      obtain ⟨rfl, rfl⟩ := h
      have he := hnil hn
      subst hn; subst he
      exact ⟨_, w, ι, run_append_none ht hi g1 hsrc, hs', r, Ext.refl⟩
    simp only [hn, if_false] at h
    split at h
    case isFalse => cases h
    rename_i hb
    obtain ⟨hes, rfl, hb1, hb2⟩ := hb
    simp only [Option.some.injEq] at h
    obtain rfl := g2 rfl
    have hfit : Builtin.nextslicecap (cap + n) cap * i'.bytes ≤ 281474976710656 := growslice_fits (by omega) (by omega)
    obtain ⟨us, hus, hul, hold⟩ : ∃ us : List Value, VRels nb ι olds us ∧ us.length = cap * i'.size ∧ (Builtin.firstCells i'.size cap (.slice a0 cap cap)).run P w.drew = .ok us.toArray w.drew := by
      by_cases hm : cap = 0
      · subst hm
        simp only [Nat.zero_mul] at g0
        obtain rfl := List.eq_nil_of_length_eq_zero g0
        refine ⟨[], by simp [VRels], by simp, ?_⟩
        cases a0 with
        | none => simp [Builtin.firstCells]
        | some q => simp [Builtin.firstCells, loadCells, loadCellsFrom]
      · obtain rfl := hes.resolve_right hm
        obtain ⟨b, o, us, rfl, k1, c0, k2, k3⟩ := g4 hm
        have hul : us.length = cap * i'.size := by rw [k1.length]; exact g0
        refine ⟨us, VRels.mono ι.bare_le _ _ k1, hul, run_firstCells_some w.drew i'.size cap _ cap cap us hul (fun j v hv => by rw [Addr.add_mid]; simpa using r.held ⟨c0, k2, k3⟩ j v hv)⟩
    have hrun := run_append_grow_src (P := P) w t tx ty e i' zv ht hi hzv a0 cap cap us hold xv n news hsrc (by omega) (by omega) hfit
    obtain ⟨ι', h1, h2, h3⟩ := fresh_sound r (e := e) (ty := some e) (fun t ht => by simpa using ht.symm) (need := cap + n) (cap := grownCap w (cap + n) cap e) (w' := w.drew.alloc (.cells ((us ++ news).toArray ++ Builtin.zeroCells zv.cells (grownCap w (cap + n) cap e - (cap + n))) e)) (hus.append hns) hsz hs0 (grownCap_ge w (cap + n) cap e) (by rw [List.length_append, hul, hnl, Nat.add_mul]) rfl
    rw [h] at h1 h2 h3
    exact ⟨_, _, ι', hrun, h1, h2, h3⟩
  · cases h

/-! ### A step of an iterator over a string -/

theorem decode_sound {b : ByteArray} {s : List Nat} (hb : bytesRel s b) (pos : Nat) : Utf8.decode b pos = decodeAt (s.drop pos) := by
  unfold bytesRel at hb
  have hl : b.size = s.length := by rw [Lib.size_eq, ← hb, List.length_map]
  have hat : ∀ k, (b.get! (pos + k)).toNat = (s.drop pos).getD k 0 := fun k => by
    rw [← hb, List.getD_eq_getElem?_getD, List.getElem?_drop, List.getElem?_map]
    show (b.data[pos + k]!).toNat = _
    rw [getElem!_def]
    cases h : b.data[pos + k]? with
    | none => simp [h]; rfl
    | some v => simp [h]
  have hcont : ∀ k, (decide (pos + k < b.size) : Bool) = decide (k < (s.drop pos).length) := fun k => by
    rw [hl, List.length_drop]
    by_cases h : pos + k < s.length
    · simp [h]; omega
    · simp [h]; omega
  unfold Utf8.decode decodeAt
  simp only [hat, hcont]

theorem Rel.step {k : Nat} {l : Loc} {s : List Nat} {pos pos' : Nat} {b : ByteArray} {w' : World} (r : Rel nb ι H w) (hk : ι k = some l) (hget : H.t.get k = some (.iter s pos)) (hb : bytesRel s b)
    (ht : Turned w w' (w.heap.setIfInBounds l.blk (.stringIter b pos'))) : Rel nb ι (H.put k (.iter s pos')) w' ∧ Ext nb ι H w ι (H.put k (.iter s pos')) w' := by
  have hw := ht.heap
  have hd := r.dom k l hk
  have hoth : ∀ c, c ≠ l.blk → w'.heap[c]? = w.heap[c]? := fun c hc => by rw [hw, Array.getElem?_setIfInBounds_ne (Ne.symm hc)]
  have hsz : w'.heap.size = w.heap.size := by rw [hw]; simp
  constructor
  · refine ⟨by rw [hsz]; exact r.nbw, ?_, ?_, ?_, ?_, ?_, ?_, ?_, nb.keep w _ (fun b hb => hoth b (by have := (r.dom k l hk).1; omega)) r.inv⟩
    · intro c bs hc
      refine ⟨(r.old c bs hc).1, fun i x hx => ?_⟩
      obtain ⟨v, hv, hr⟩ := (r.old c bs hc).2 i x hx
      have hne : c ≠ l.blk := by have := (r.old c bs hc).1; omega
      exact ⟨v, by rw [cell?_of_heap (hoth c hne)]; exact hv, hr⟩
    · intro j q ds es' fz ty' hj hoj
      simp only [Heap.put, T.get_set] at hoj
      by_cases hjk : j = k
      · rw [if_pos hjk] at hoj; simp at hoj
      · rw [if_neg hjk] at hoj
        have hne : q.blk ≠ l.blk := fun e => hjk (r.inj j k q l _ _ hj hk hoj hget e)
        obtain ⟨h1, h2, h3, h4⟩ := r.row j q ds es' fz ty' hj hoj
        refine ⟨fun i x hx => ?_, fun hf i v hv => ?_, fun he i hi => ?_, h4.of_heap (hoth _ hne)⟩
        · obtain ⟨v, hv, hr⟩ := h1 i x hx
          exact ⟨v, by rw [cell?_of_heap (hoth _ hne)]; exact hv, hr⟩
        · rw [cell?_of_heap (hoth _ hne)] at hv
          rw [frozen?_of_heap (hoth _ hne)]
          exact h2 hf i v hv
        · obtain ⟨v, hv⟩ := h3 he i hi
          exact ⟨v, by rw [cell?_of_heap (hoth _ hne)]; exact hv⟩
    · intro j q s' p' hj hoj
      simp only [Heap.put, T.get_set] at hoj
      by_cases hjk : j = k
      · subst hjk
        rw [if_pos rfl] at hoj
        simp only [Option.some.injEq, Obj.iter.injEq] at hoj
        obtain ⟨rfl, rfl⟩ := hoj
        obtain rfl : q = l := by rw [hk] at hj; simpa using hj.symm
        refine ⟨(r.iter j q s pos hj hget).1, b, hb, ?_⟩
        rw [hw, Array.getElem?_setIfInBounds_self_of_lt hd.2.1]
      · rw [if_neg hjk] at hoj
        have hne : q.blk ≠ l.blk := fun e => hjk (r.inj j k q l _ _ hj hk hoj hget e)
        obtain ⟨h0, b', hb1, hb2⟩ := r.iter j q s' p' hj hoj
        exact ⟨h0, b', hb1, by rw [hoth _ hne]; exact hb2⟩
    · intro j q hj
      rw [hsz]
      exact r.dom j q hj
    · intro j j' q q' o1 o2 hj hj' h1 h2 hb
      simp only [Heap.put, T.get_set] at h1 h2
      have f : ∀ (j : Nat) (o1 : Lite.Obj), (if j = k then some (Obj.iter s pos') else H.t.get j) = some o1 → ∃ o2, H.t.get j = some o2 := fun j o1 h => by
        by_cases e : j = k
        · subst e; exact ⟨_, hget⟩
        · rw [if_neg e] at h; exact ⟨_, h⟩
      obtain ⟨p1, e1⟩ := f j o1 h1
      obtain ⟨p2, e2⟩ := f j' o2 h2
      exact r.inj j j' q q' p1 p2 hj hj' e1 e2 hb
    · intro j o1 h1
      simp only [Heap.put, T.get_set] at h1 ⊢
      by_cases e : j = k
      · subst e; exact hd.2.2
      · rw [if_neg e] at h1; exact r.lt j o1 h1
    · intro b0 c hc
      obtain ⟨g1, g2, g3⟩ := r.fz b0 c hc
      have hne : b0 ≠ l.blk := fun e => by
        obtain ⟨_, _, _, e2⟩ := g3 k l _ hk hget e.symm
        simp at e2
      refine ⟨by rw [hsz]; exact g1, fun i => by rw [cell?_of_heap (hoth b0 hne)]; exact g2 i, fun j q o1 hj hoj hb => ?_⟩
      simp only [Heap.put, T.get_set] at hoj
      by_cases e : j = k
      · subst e
        rw [hk] at hj
        simp only [Option.some.injEq] at hj
        subst hj
        exact absurd hb.symm hne
      · rw [if_neg e] at hoj
        exact g3 j q o1 hj hoj hb
  · refine ⟨Emb.le_refl ι, by rw [hsz]; exact Nat.le_refl _, fun c hc hcc => ?_, fun j q hj _ => ⟨j, q, hj, rfl⟩, fun _ _ h => .inl h, Nat.le_refl _, fun j _ hj => ?_, rfl, ht.env, fun _ _ h => .inl h⟩
    · refine hoth c ?_
      rcases hcc with h | h
      · omega
      · exact fun e => h k l hk e.symm
    · simp only [Heap.put, T.get_set]
      rw [if_neg]
      rintro rfl
      rw [hk] at hj; cases hj

/-! ### All together -/

theorem wop_sound (hg : P.globals.size ≤ nb) (hf : FRel nb ι fr a.tmps) (r : Rel nb ι H w) {o : Oper} {q : WOp} {z : AV} {H' : Heap} (hs : slimW P nt o.op = some q) (hz : q.val fr H = some (z, H')) :
    Writes1 P nb ι H w (execOp a.eval o) z H' := by
  have X : ∀ {x : Operand} {y : SX}, slimX P nt x = some y → VRel nb ι (y.ev fr) (a.eval x) := fun h => slimX_sound hg hf h
  unfold slimW at hs
  split at hs
  case h_1 t ad x hop =>
    simp only [Option.bind_eq_some_iff, Option.map_eq_some_iff] at hs
    obtain ⟨ad', ha, x', hx, size, hsize, rfl⟩ := hs
    simp only [WOp.val, Option.bind_eq_some_iff] at hz
    obtain ⟨vs, hvs, hz⟩ := hz
    split at hz
    case isFalse => cases hz
    rename_i hc
    obtain ⟨hlen, hflat⟩ := hc
    simp only [Option.bind_eq_some_iff, Option.map_eq_some_iff, Prod.mk.injEq] at hz
    obtain ⟨q, hq, H1, hst, rfl, rfl⟩ := hz
    obtain ⟨l, hl, hav⟩ := (X ha).asPtr hq
    have hus := (X hx).cells hvs
    obtain ⟨g1, g2, g3⟩ := st_sound r hl hus hst
    have hul : (a.eval x).cells.size = size := by have := hus.length; simp at this; omega
    have hsc := run_storeCells_cells (P := P) l.blk (l.off + q.2) (a.eval x).cells.toList 0 w (fun j hj => by simpa using (g1 j hj).1) (fun j hj => by simpa using (g1 j hj).2) (hus.flat hflat)
    simp only [Nat.add_zero] at hsc
    refine ⟨undef, _, ι, .skip, ?_, .inr ⟨rfl, rfl⟩, by simp only [VRel], g2, g3⟩
    simp [execOp, hop, hav, Instr.storeAt, Instr.sureAddr, storeVar, run_sizeOf hsize, hul, hsc]
  case h_2 it isS hop =>
    cases isS
    · cases hs
    simp only [cond_true, Option.map_eq_some_iff] at hs
    obtain ⟨y, hy, rfl⟩ := hs
    have hx := X hy
    simp only [WOp.val] at hz
    split at hz
    case h_2 => cases hz
    rename_i k hp
    rw [hp] at hx
    simp only [VRel, locOf] at hx
    obtain ⟨l, hl, hv⟩ := hx
    split at hz
    case h_2 => cases hz
    rename_i s pos hget
    obtain ⟨h0, b, hb1, hb2⟩ := r.iter k l s pos hl hget
    have hbl : b.size = s.length := by unfold bytesRel at hb1; rw [Lib.size_eq, ← hb1, List.length_map]
    split at hz
    · rename_i hlt
      simp only [Option.some.injEq, Prod.mk.injEq] at hz
      obtain ⟨rfl, rfl⟩ := hz
      have hdec := decode_sound hb1 pos
      obtain ⟨g1, g2⟩ := r.step (w' := { w with heap := w.heap.setIfInBounds l.blk (.stringIter b (pos + (decodeAt (s.drop pos)).2)) }) (pos' := pos + (decodeAt (s.drop pos)).2) hl hget hb1 rfl
      refine ⟨.tuple #[.bool true, .int .i64 pos, .int .i32 (decodeAt (s.drop pos)).1], _, ι, _, ?_, .inl rfl, by simp [VRel, VRels], g1, g2⟩
      simp [execOp, hop, hv, h0, Instr.next, getObj, setObj, Sem.run, hb2, hbl, hlt, hdec, goInt]
    · rename_i hlt
      simp only [Option.some.injEq, Prod.mk.injEq] at hz
      obtain ⟨rfl, rfl⟩ := hz
      refine ⟨.tuple #[.bool false], w, ι, _, ?_, .inl rfl, by simp [VRel, VRels], r, Ext.refl⟩
      simp [execOp, hop, hv, h0, Instr.next, getObj, Sem.run, hb2, hbl, hlt]
  case h_3 args argTypes hop =>
    split at hs
    case h_2 => cases hs
    rename_i s x t u hla hlt
    simp only [Option.bind_eq_some_iff] at hs
    obtain ⟨s', hs1, x', hx, hs⟩ := hs
    have key : ∀ e, P.underlying t = some (.slice e) → ((∃ e', P.underlying u = some (.slice e')) ∨ P.underlying u = some .string) → ((P.info? e).bind fun i => (zeroT P e).bind fun zs =>
        if i.bytes ≤ 1048576 then some (WOp.append e i.size i.bytes s' x') else none) = some q → Writes1 P nb ι H w (execOp a.eval o) z H' := by
      intro e hu hk hq
      simp only [Option.bind_eq_some_iff] at hq
      obtain ⟨i, hi, zs, hzs, hq⟩ := hq
      split at hq
      case isFalse => cases hq
      simp only [Option.some.injEq] at hq
      subst hq
      simp only [WOp.val, Option.bind_eq_some_iff] at hz
      obtain ⟨⟨n, cs⟩, htk, hz⟩ := hz
      have hfl : cs.all AV.flat = true := by
        unfold appendOf at hz
        split at hz
        · cases hz
        · rename_i hc
          cases hh : cs.all AV.flat with
          | true => rfl
          | false => exact absurd (.inr hh) hc
      obtain ⟨news, hns, hsrc⟩ := taken_sound r (tx := u) hk (X hx) htk hfl
      obtain ⟨v, w', ι', h1, h2, h3, h4⟩ := append_sound (ty := o.type) r hu hi hzs (X hs1) hns hsrc hz
      obtain ⟨args⟩ := args
      obtain ⟨argTypes⟩ := argTypes
      change args = _ at hla
      change argTypes = _ at hlt
      subst hla; subst hlt
      exact ⟨v, w', ι', _, by unfold execOp; rw [hop]; simp [resolve, invoke, builtin, h1], .inl rfl, h2, h3, h4⟩
    split at hs
    · rename_i e e' h1 h2
      exact key e h1 (.inl ⟨e', h2⟩) hs
    · rename_i e h1 h2
      exact key e h1 (.inr h2) hs
    · cases hs
  case h_4 => cases hs

end Go.Lite
