/-
  Each operation that makes a block comes, in the model, to what the interpreter says.
-/
import Derived.Test.YtibjdfajafilhaaLOpsE
import Derived.Laws.RangeString
import Derived.Laws.AppendOwn
namespace Go.Lite
open Go
set_option linter.unusedSimpArgs false
set_option linter.unusedVariables false

variable {P : Program} {nb : NB} {ι : Emb} {H : Heap} {w : World} {fr : Fr} {a : Act} {nt : Nat}

/-- A new object of the model's, and what the interpreter says of it; 'l': where in its block it lies. -/
def Born (nb : NB) (ι : Emb) (l : Loc) : Lite.Obj → Go.Obj → Prop
  | .row cs es fz ty, ob => ∃ cells elem fro, ob = .cells cells elem fro ∧ (∀ (i : Nat) (x : AV), cs[i]? = some x → ∃ v, cells[l.off + i]? = some v ∧ VRel nb ι x v) ∧
      (fz = false → ∀ i, i < cells.size → ¬ (fro.1 ≤ i ∧ i < fro.2)) ∧ (es ≠ 0 → l.off + l.lim ≤ cells.size) ∧ (∀ t, ty = some t → l.off = 0 ∧ t = elem ∧ (es = 0 → cells.size = cs.length))
  | .iter s pos, ob => l.off = 0 ∧ ∃ b, bytesRel s b ∧ ob = .stringIter b pos

def Emb.put (ι : Emb) (k : Nat) (l : Loc) : Emb := ⟨fun j => if j = k then some l else ι j, ι.fz⟩

theorem Emb.put_at {ι : Emb} {k j : Nat} {l : Loc} : (ι.put k l) j = if j = k then some l else ι j := rfl

theorem Emb.le_put {ι : Emb} {k : Nat} {l : Loc} (h : ι k = none) : ι.le (ι.put k l) := ⟨fun j q e => by
  rw [Emb.put_at]
  by_cases hj : j = k
  · subst hj; rw [h] at e; cases e
  · rw [if_neg hj]; exact e, fun _ _ h => h⟩

theorem Emb.put_same {ι : Emb} {k : Nat} {l : Loc} : ι.put k l k = some l := by simp [Emb.put]

theorem heap_push_lt {w w' : World} {ob : Go.Obj} (h : w'.heap = w.heap.push ob) {b : Nat} (hb : b < w.heap.size) : w'.heap[b]? = w.heap[b]? := by
  rw [h, Array.getElem?_push]
  simp [Nat.ne_of_lt hb]

theorem heap_push_new {w w' : World} {ob : Go.Obj} (h : w'.heap = w.heap.push ob) : w'.heap[w.heap.size]? = some ob := by
  rw [h]; simp

theorem cell_lt {w : World} {b i : Nat} {v : Value} (h : w.cell? ⟨b, i, none⟩ = some v) : b < w.heap.size := by
  unfold World.cell? at h
  split at h
  · rename_i hb
    exact (Array.getElem?_eq_some_iff.1 hb).1
  · cases h

/-- A block that is told already, but not yet embedded, is born. -/
theorem Rel.born {w' : World} {k : Nat} {o : Lite.Obj} {ob : Go.Obj} {l : Loc} (r : Rel nb ι H w) (hk : ι k = none) (ho : H.t.get k = some o) (hh : w'.heap = w.heap.push ob) (hl : l.blk = w.heap.size)
    (hb : Born nb ι l o ob) : Rel nb (ι.put k l) H w' := by
  have hle : ι.le (ι.put k l) := Emb.le_put hk
  have hcell : ∀ b i v, w.cell? ⟨b, i, none⟩ = some v → w'.cell? ⟨b, i, none⟩ = some v := fun b i v h => by
    rw [← h]; exact cell?_of_heap (heap_push_lt hh (cell_lt h)) i
  have hnew := heap_push_new hh
  refine ⟨?_, ?_, ?_, ?_, ?_, ?_, r.lt, ?_, nb.keep w w' (fun b hb => by rw [hh, Array.getElem?_push, if_neg (by have := r.nbw; omega)]) r.inv⟩
  · rw [hh]; have := r.nbw; simp; omega
  · intro b cs hb'
    refine ⟨(r.old b cs hb').1, fun i x hx => ?_⟩
    obtain ⟨v, hv, hr⟩ := (r.old b cs hb').2 i x hx
    exact ⟨v, hcell _ _ _ hv, hr⟩
  · intro j q cs es fz ty hj hoj
    simp only [Emb.put_at] at hj
    by_cases hjk : j = k
    · subst hjk
      rw [if_pos rfl] at hj
      simp only [Option.some.injEq] at hj
      subst hj
      rw [ho] at hoj
      simp only [Option.some.injEq] at hoj
      subst hoj
      obtain ⟨cells, elem, fro, rfl, h1, h2, h3, h4⟩ := hb
      have hc : ∀ i, w'.cell? ⟨l.blk, i, none⟩ = cells[i]? := fun i => by rw [hl]; unfold World.cell?; rw [hnew]; simp
      refine ⟨fun i x hx => ?_, fun hf i v hv => ?_, fun he i hi => ?_, fun t ht => ?_⟩
      · obtain ⟨v, hv, hr⟩ := h1 i x hx
        exact ⟨v, by rw [hc]; exact hv, hr.mono hle⟩
      · rw [hc] at hv
        have hlt := (Array.getElem?_eq_some_iff.1 hv).1
        have := h2 hf i hlt
        unfold World.frozen?
        rw [hl, hnew]
        simp only [Bool.and_eq_false_iff, decide_eq_false_iff_not]
        rcases Nat.lt_or_ge i fro.1 with h | h
        · left; omega
        · right; omega
      · have := h3 he
        exact ⟨cells[l.off + i]'(by omega), by rw [hc]; exact Array.getElem?_eq_getElem _⟩
      · obtain ⟨g0, rfl, g2⟩ := h4 t ht
        exact ⟨g0, cells.size, by rw [hl]; unfold World.shape?; rw [hnew], g2⟩
    · rw [if_neg hjk] at hj
      obtain ⟨h1, h2, h3, h4⟩ := r.row j q cs es fz ty hj hoj
      have hblk := (r.dom j q hj).2.1
      refine ⟨fun i x hx => ?_, fun hf i v hv => ?_, fun he i hi => ?_, h4.of_heap (heap_push_lt hh hblk)⟩
      · obtain ⟨v, hv, hr⟩ := h1 i x hx
        exact ⟨v, hcell _ _ _ hv, hr.mono hle⟩
      · rw [cell?_of_heap (heap_push_lt hh hblk)] at hv
        rw [frozen?_of_heap (heap_push_lt hh hblk)]
        exact h2 hf i v hv
      · obtain ⟨v, hv⟩ := h3 he i hi
        exact ⟨v, hcell _ _ _ hv⟩
  · intro j q s pos hj hoj
    simp only [Emb.put_at] at hj
    by_cases hjk : j = k
    · subst hjk
      rw [if_pos rfl] at hj
      simp only [Option.some.injEq] at hj
      subst hj
      rw [ho] at hoj
      simp only [Option.some.injEq] at hoj
      subst hoj
      obtain ⟨h0, b, hb1, rfl⟩ := hb
      exact ⟨h0, b, hb1, by rw [hl]; exact hnew⟩
    · rw [if_neg hjk] at hj
      obtain ⟨h0, b, hb1, hb2⟩ := r.iter j q s pos hj hoj
      exact ⟨h0, b, hb1, by rw [heap_push_lt hh (r.dom j q hj).2.1]; exact hb2⟩
  · intro j q hj
    simp only [Emb.put_at] at hj
    rw [hh]
    by_cases hjk : j = k
    · subst hjk
      rw [if_pos rfl] at hj
      simp only [Option.some.injEq] at hj
      subst hj
      refine ⟨by rw [hl]; exact r.nbw, by rw [hl]; simp, r.lt _ _ ho⟩
    · rw [if_neg hjk] at hj
      have := r.dom j q hj
      refine ⟨this.1, by simp; omega, this.2.2⟩
  · intro j j' q q' o1 o2 hj hj' ho1 ho2 hb'
    simp only [Emb.put_at] at hj hj'
    by_cases h1 : j = k <;> by_cases h2 : j' = k
    · rw [h1, h2]
    · rw [if_pos h1] at hj
      rw [if_neg h2] at hj'
      simp only [Option.some.injEq] at hj
      subst hj
      have := (r.dom j' q' hj').2.1
      omega
    · rw [if_neg h1] at hj
      rw [if_pos h2] at hj'
      simp only [Option.some.injEq] at hj'
      subst hj'
      have := (r.dom j q hj).2.1
      omega
    · rw [if_neg h1] at hj
      rw [if_neg h2] at hj'
      exact r.inj j j' q q' o1 o2 hj hj' ho1 ho2 hb'
  · intro b c hc
    obtain ⟨g1, g2, g3⟩ := r.fz b c hc
    refine ⟨by rw [hh]; simp; omega, fun i => by rw [cell?_of_heap (heap_push_lt hh g1)]; exact g2 i, fun j q oj hj hoj hb' => ?_⟩
    simp only [Emb.put_at] at hj
    by_cases hjk : j = k
    · rw [if_pos hjk] at hj
      simp only [Option.some.injEq] at hj
      subst hj
      omega
    · rw [if_neg hjk] at hj
      exact g3 j q oj hj hoj hb'

/-- .. and what that does to the rest. -/
theorem Ext.born {w' : World} {k : Nat} {ob : Go.Obj} {l : Loc} (r : Rel nb ι H w) (hk : ι k = none) (ht : Turned w w' (w.heap.push ob)) (hl : l.blk = w.heap.size) (hkn : H.n ≤ k) {H' : Heap} (hn : H.n ≤ H'.n)
    (hun : ∀ j, j < H.n → H'.t.get j = H.t.get j) (hbase : H'.base = H.base) : Ext nb ι H w (ι.put k l) H' w' where
  le := Emb.le_put hk
  size := by rw [ht.heap]; simp
  kept b hb _ := heap_push_lt ht.heap hb
  rng j q hj hq := by
    simp only [Emb.put_at] at hj
    by_cases hjk : j = k
    · rw [if_pos hjk] at hj
      simp only [Option.some.injEq] at hj
      subst hj
      omega
    · rw [if_neg hjk] at hj
      exact ⟨j, q, hj, rfl⟩
  fresh j q hj := by
    simp only [Emb.put_at] at hj
    by_cases hjk : j = k
    · right; omega
    · rw [if_neg hjk] at hj; exact .inl hj
  n := hn
  unborn j hj _ := hun j hj
  base := hbase
  env := ht.env
  frz _ _ h := .inl h

/-- A block that is told, and not yet embedded. -/
theorem Rel.push (r : Rel nb ι H w) (o : Lite.Obj) : Rel nb ι (H.push o) w where
  nbw := r.nbw
  inv := r.inv
  old := r.old
  row k l cs es fz ty hk ho := by
    have := (r.dom k l hk).2.2
    simp only [Heap.push, T.get_set] at ho
    rw [if_neg (by omega)] at ho
    exact r.row k l cs es fz ty hk ho
  iter k l s pos hk ho := by
    have := (r.dom k l hk).2.2
    simp only [Heap.push, T.get_set] at ho
    rw [if_neg (by omega)] at ho
    exact r.iter k l s pos hk ho
  dom k l hk := by
    have := r.dom k l hk
    simp only [Heap.push]
    omega
  inj k k' l l' o1 o2 hk hk' h1 h2 hb := by
    have e1 := (r.dom k l hk).2.2
    have e2 := (r.dom k' l' hk').2.2
    simp only [Heap.push, T.get_set] at h1 h2
    rw [if_neg (by omega)] at h1 h2
    exact r.inj k k' l l' o1 o2 hk hk' h1 h2 hb
  lt k o1 h := by
    simp only [Heap.push, T.get_set] at h ⊢
    split at h
    · omega
    · have := r.lt k o1 h; omega
  fz b c hc := by
    obtain ⟨g1, g2, g3⟩ := r.fz b c hc
    refine ⟨g1, g2, fun k l o1 hk ho hb => ?_⟩
    have := (r.dom k l hk).2.2
    simp only [Heap.push, T.get_set] at ho
    rw [if_neg (by omega)] at ho
    exact g3 k l o1 hk ho hb

/-! ### The operations -/

theorem fillAt_len : ∀ {ps : List (Nat × Nat × AV)} {cs ds : List AV}, fillAt cs ps = some ds → ds.length = cs.length
  | [], cs, ds, h => by simp only [fillAt, Option.some.injEq] at h; rw [h]
  | (o, s, v) :: ps, cs, ds, h => by
    simp only [fillAt, Option.bind_eq_some_iff] at h
    obtain ⟨vs, hvs, h⟩ := h
    split at h
    case isFalse => cases h
    rename_i hc
    rw [fillAt_len h]
    unfold putAt
    simp only [List.length_append, List.length_take, List.length_drop]
    omega

theorem rep_get (zs : List AV) : ∀ (n i : Nat) (x : AV), (rep zs n)[i]? = some x → i < n * zs.length ∧ zs[i % zs.length]? = some x
  | 0, i, x, h => by simp [rep] at h
  | n + 1, i, x, h => by
    simp only [rep] at h
    by_cases hi : i < zs.length
    · rw [List.getElem?_append_left hi] at h
      refine ⟨by rw [Nat.add_mul]; omega, by rw [Nat.mod_eq_of_lt hi]; exact h⟩
    · rw [List.getElem?_append_right (by omega)] at h
      obtain ⟨h1, h2⟩ := rep_get zs n _ x h
      refine ⟨by rw [Nat.add_mul]; omega, ?_⟩
      rw [Nat.mod_eq_sub_mod (by omega)]
      exact h2

/-- rows of zeros -/
theorem zeros_rel {zs : List AV} {z : Array Value} (hz : VRels nb ι zs z.toList) (n : Nat) : ∀ (i : Nat) (x : AV), (rep zs n)[i]? = some x → ∃ v, ((Array.range (n * z.size)).map fun j => z[j % z.size]!)[i]? = some v ∧ VRel nb ι x v := by
  intro i x hx
  have hl : z.size = zs.length := by simpa using hz.length
  obtain ⟨h1, h2⟩ := rep_get zs n i x hx
  obtain ⟨v, hv, hr⟩ := hz.get _ _ h2
  refine ⟨v, ?_, hr⟩
  rw [← hl] at h1 hv
  have hlt : i % z.size < z.size := (Array.getElem?_eq_some_iff.1 (by simpa using hv)).1
  simp only [Array.getElem?_map, Array.getElem?_range]
  rw [if_pos h1]
  simp only [Option.map_some, Option.some.injEq]
  rw [getElem!_pos z _ hlt]
  have := (Array.getElem?_eq_some_iff.1 (show z[i % z.size]? = some v by simpa using hv)).2
  exact this

/-- a block is embedded; what it holds will not change, if so it is said of it -/
def Emb.add (ι : Emb) (k : Nat) (l : Loc) (o : Lite.Obj) (w' : World) : Emb :=
  match o with
  | .row _ _ true _ => (ι.put k l).freeze w' l.blk
  | _ => ι.put k l

theorem Emb.add_at {ι : Emb} {k j : Nat} {l : Loc} {o : Lite.Obj} {w' : World} : (ι.add k l o w') j = if j = k then some l else ι j := by
  unfold Emb.add
  split <;> rfl

theorem Emb.le_add {ι : Emb} {k : Nat} {l : Loc} {o : Lite.Obj} {w' : World} (h : ι k = none) : ι.le (ι.add k l o w') := by
  unfold Emb.add
  split
  · exact Emb.le_trans (Emb.le_put h) Emb.le_freeze
  · exact Emb.le_put h

theorem Emb.add_same {ι : Emb} {k : Nat} {l : Loc} {o : Lite.Obj} {w' : World} : (ι.add k l o w') k = some l := by rw [Emb.add_at, if_pos rfl]

/-- what is embedded so -/
theorem Rel.added {k : Nat} {o : Lite.Obj} {l : Loc} {w' : World} (r : Rel nb (ι.put k l) H w') (ho : H.t.get k = some o) :
    Rel nb (ι.add k l o w') H w' ∧ Ext nb (ι.put k l) H w' (ι.add k l o w') H w' ∧ ∀ cs es ty, o = .row cs es true ty → (ι.add k l o w').fz l.blk = some (cellsAt w' l.blk) := by
  unfold Emb.add
  split
  · rename_i cs es ty
    obtain ⟨h1, h2, h3⟩ := r.settleH (H' := H) (k := k) Emb.put_same ho (fun j => by
      by_cases e : j = k
      · rw [if_pos e, e]; exact ho
      · rw [if_neg e]) rfl rfl
    exact ⟨h1, h2, fun _ _ _ _ => h3⟩
  · rename_i hno
    exact ⟨r, Ext.refl, fun cs es ty e => (hno cs es ty e).elim⟩

/-- It comes to a value, and makes one block. -/
def Makes1 (P : Program) (nb : NB) (ι : Emb) (w : World) (s : Sem Next) (k : Nat) (o : Lite.Obj) (z : AV) : Prop :=
  ∃ v w' ob l, s.run P w = .ok (.value v) w' ∧ Turned w w' (w.heap.push ob) ∧ l.blk = w.heap.size ∧ Born nb ι l o ob ∧ ∀ ι' : Emb, ι' k = some l → ι.le ι' → (∀ cs es ty, o = .row cs es true ty → ι'.fz l.blk = some (cellsAt w' l.blk)) → VRel nb ι' z v

theorem aop_sound (hg : P.globals.size ≤ nb) (hf : FRel nb ι fr a.tmps) {o : Oper} {q : AOp} {k : Nat} {ob : Lite.Obj} {z : AV} (hs : slimA P nt o.op = some q) (hz : q.val fr k = some (ob, z)) :
    Makes1 P nb ι w (execOp a.eval o) k ob z := by
  have X : ∀ {x : Operand} {y : SX}, slimX P nt x = some y → VRel nb ι (y.ev fr) (a.eval x) := fun h => slimX_sound hg hf h
  unfold slimA at hs
  split at hs
  case h_1 t hop =>
    simp only [Option.map_eq_some_iff] at hs
    obtain ⟨zs, hzs, rfl⟩ := hs
    obtain ⟨i, zv, hi, hzv, hsz, habs⟩ := zeroT_spec hzs
    have hz0 := run_zeroValue (P := P) hi hzv w
    simp only [AOp.val, Option.some.injEq, Prod.mk.injEq] at hz
    obtain ⟨rfl, rfl⟩ := hz
    refine ⟨_, _, .cells zv.cells t, ⟨w.heap.size, 0, 0⟩, by simp [execOp, hop, Instr.alloc, hz0, newVar, newRow]; exact ⟨rfl, rfl⟩, by exact rfl, rfl, ?_, fun ι' hk _ _ => ?_⟩
    · refine ⟨_, _, _, rfl, fun j x hx => ?_, fun _ j _ h => by simp at h, fun h => absurd rfl h, fun t ht => ⟨rfl, by simpa using ht.symm, fun _ => by simpa using (absFlats_sound (nb := nb) (ι := ι) habs).length⟩⟩
      obtain ⟨v, hv, hr⟩ := (absFlats_sound (nb := nb) (ι := ι) habs).get _ _ hx
      exact ⟨v, by simpa using hv, hr⟩
    · simp only [VRel, locOf]
      exact ⟨_, hk, rfl⟩
  case h_2 t x hop =>
    simp only [Option.map_eq_some_iff] at hs
    obtain ⟨y, hy, rfl⟩ := hs
    simp only [AOp.val, Option.map_eq_some_iff, Prod.mk.injEq] at hz
    obtain ⟨cs, hcs, rfl, rfl⟩ := hz
    have hc := (X hy).cells hcs
    refine ⟨_, _, .cells (a.eval x).cells t, ⟨w.heap.size, 0, 0⟩, by simp [execOp, hop, Instr.box, newVar, newRow]; exact ⟨rfl, rfl⟩, by exact rfl, rfl, ?_, fun ι' hk _ _ => ?_⟩
    · refine ⟨_, _, _, rfl, fun j x hx => ?_, fun _ j _ h => by simp at h, fun h => absurd rfl h, fun t ht => ⟨rfl, by simpa using ht.symm, fun _ => by simpa using hc.length⟩⟩
      obtain ⟨v, hv, hr⟩ := hc.get _ _ hx
      exact ⟨v, by simpa using hv, hr⟩
    · simp only [VRel, locOf]
      exact ⟨_, hk, rfl⟩
  case h_3 t len parts hop =>
    split at hs
    case h_2 => cases hs
    rename_i e hu
    simp only [Option.bind_eq_some_iff] at hs
    obtain ⟨size, hsize, zs, hzs, hs⟩ := hs
    split at hs
    case isFalse => cases hs
    rename_i hcond
    simp only [Option.map_eq_some_iff] at hs
    obtain ⟨ps, hps, rfl⟩ := hs
    obtain ⟨i, zv, hi, hzv, hsz, habs⟩ := zeroT_spec hzs
    have hz0 := run_zeroValue (P := P) hi hzv w
    have hsi : size = i.size := by
      simp only [sizeT, hi, Option.map_some, Option.some.injEq] at hsize
      exact hsize.symm
    simp only [AOp.val, Option.map_eq_some_iff] at hz
    obtain ⟨cs, hcs, hz⟩ := hz
    obtain ⟨hl, hpl⟩ := partsOf_sound (a := a) hg hf hps
    have hzr : VRels nb ι zs zv.cells.toList := absFlats_sound habs
    have hzl : zs.length = size := by rw [← hzr.length]; simp; omega
    have hrow : VRels nb ι (rep zs len) ((Array.range (len * size)).map fun j => zv.cells[j % zv.cells.size]!).toList := by
      refine VRels.of_get ?_ fun j x v hx hv => ?_
      · have : ∀ n, (rep zs n).length = n * zs.length := fun n => by
          induction n with
          | zero => simp [rep]
          | succ n ih => simp [rep, ih, Nat.add_mul]; omega
        simp [this, hzl]
      · obtain ⟨u, hu1, hr⟩ := zeros_rel hzr len j x hx
        rw [hsz, ← hsi] at hu1
        rw [hsz, ← hsi] at hv
        rw [Array.getElem?_toList, hu1] at hv
        simp only [Option.some.injEq] at hv
        subst hv; exact hr
    obtain ⟨out, ho, hor⟩ := fill_sound (place := fun i => some (i * size, size)) (place' := fun _ => none) (by simpa using hl) hpl hrow hcs
    have h24 : ¬ (16777216 < len * size) := by omega
    have hrun : (execOp a.eval o).run P w = .ok (.value (.slice (some ⟨w.heap.size, 0, none⟩) len len)) (w.alloc (.cells out e)) := by
      by_cases hlz : len * size = 0
      · have hl0 : len = 0 := by
          rcases Nat.mul_eq_zero.1 hlz with h | h
          · exact h
          · exact absurd h hcond.1
        subst hl0
        have hr0 : (Array.range 0 : Array Nat) = #[] := rfl
        simp only [Nat.zero_mul, hr0, List.map_toArray, List.map_nil, Array.map_empty] at ho
        simp [execOp, hop, Instr.buildSlice, run_underlying hu, run_sizeOf hsize, newRow, hr0, ho]
      · simp [execOp, hop, Instr.buildSlice, run_underlying hu, run_sizeOf hsize, h24, hlz, hz0, ho, newRow]
    have hol := hor.length
    have hrl : (rep zs len).length = len * size := by
      have : ∀ n, (rep zs n).length = n * zs.length := fun n => by
        induction n with
        | zero => simp [rep]
        | succ n ih => simp [rep, ih, Nat.add_mul]; omega
      rw [this, hzl]
    have hcl : cs.length = len * size := by rw [fillAt_len hcs, hrl]
    have hes : len ≠ 0 → zs.length * len / len = size := fun h => by rw [Nat.mul_div_cancel _ (by omega), hzl]
    have hdiv : len ≠ 0 → (rep zs len).length / len = size := fun h => by rw [hrl, Nat.mul_comm, Nat.mul_div_cancel _ (by omega)]
    cases hcn : layOf cs with
    | none =>
      rw [hcn] at hz
      simp only [lay, Prod.mk.injEq] at hz
      obtain ⟨rfl, rfl⟩ := hz
      refine ⟨.slice (some ⟨w.heap.size, 0, none⟩) len len, w.alloc (.cells out e), .cells out e, ⟨w.heap.size, 0, 0⟩, hrun, rfl, rfl, ?_, fun ι' hk _ _ => ?_⟩
      · refine ⟨_, _, _, rfl, fun j x hx => ?_, fun _ j _ h => by simp at h, fun h => absurd rfl h, fun t ht => by cases ht⟩
        obtain ⟨v, hv, hr⟩ := hor.get _ _ hx
        exact ⟨v, by simpa using hv, hr⟩
      · simp only [VRel, locOf, capRel]
        exact ⟨_, len, hk, rfl, Nat.le_refl _, rfl⟩
    | some ds =>
      rw [hcn] at hz
      simp only [lay, Prod.mk.injEq] at hz
      obtain ⟨rfl, rfl⟩ := hz
      obtain ⟨d1, d2⟩ := canonL_sound (layOf_canonL hcn) hor
      refine ⟨.slice (some ⟨w.heap.size, 0, none⟩) len len, w.alloc (.cells out e), .cells out e, ⟨w.heap.size, 0, 0⟩, hrun, rfl, rfl, ?_, fun ι' hk hle hfz => ?_⟩
      · refine ⟨_, _, _, rfl, fun j x hx => ?_, fun h => by simp at h, fun h => absurd rfl h, fun t ht => by cases ht⟩
        obtain ⟨v, hv, hr⟩ := d1.get _ _ hx
        exact ⟨v, by simpa using hv, hr⟩
      · cases len with
        | zero =>
          simp only [Nat.beq_refl, cond_true, VRel]
          exact ⟨rfl, _, 0, rfl, Nat.le_refl _, fun _ => rfl, fun _ => rfl, fun h => absurd rfl h⟩
        | succ len =>
          have hb0 : Nat.beq (len + 1) 0 = false := rfl
          simp only [hb0, cond_false, VRel]
          have hdl : ds.length = (len + 1) * size := by rw [← d1.length]; simpa [hcl] using hol
          refine ⟨by rw [hdiv (by omega)]; exact hdl, _, len + 1, rfl, Nat.le_refl _, fun _ => rfl, (fun h => by cases h), fun _ => ⟨w.heap.size, 0, out.toList, rfl, (VRels.pure _ _ d2 d1).mono (Emb.bare_mono hle), _, hfz _ _ _ rfl, fun i v hv => ?_⟩⟩
          have h0 : (w.alloc (.cells out e)).heap[w.heap.size]? = some (.cells out e) := heap_push_new (w := w) rfl
          have hca : cellsAt (w.alloc (.cells out e)) w.heap.size = out := by unfold cellsAt; rw [h0]
          simp only [hca, Nat.zero_add]
          simpa using hv
  case h_4 t ln cp hop =>
    simp only [Option.bind_eq_some_iff] at hs
    obtain ⟨l', hl, c', hc, hs⟩ := hs
    split at hs
    case h_2 => cases hs
    rename_i e hu
    simp only [Option.bind_eq_some_iff] at hs
    obtain ⟨i, hi, zs, hzs, hs⟩ := hs
    split at hs
    · cases hs
    rename_i hne
    simp only [Option.some.injEq] at hs; subst hs
    obtain ⟨i', zv, hi', hzv, hsz, habs⟩ := zeroT_spec hzs
    obtain rfl : i' = i := by rw [hi] at hi'; simpa using hi'.symm
    have hz0 := run_zeroValue (P := P) hi hzv w
    have hzr : VRels nb ι zs zv.cells.toList := absFlats_sound habs
    simp only [AOp.val, Option.bind_eq_some_iff] at hz
    obtain ⟨n, hn, c, hcn, hz⟩ := hz
    split at hz
    case isFalse => cases hz
    rename_i hcond
    obtain ⟨h1, h2, h3⟩ := hcond
    simp only [Option.some.injEq, Prod.mk.injEq] at hz
    obtain ⟨rfl, rfl⟩ := hz
    obtain ⟨k1, hv1⟩ := (X hl).asNat hn
    obtain ⟨k2, hv2⟩ := (X hc).asNat hcn
    have w1 : IntKind.i64.wrap (n : Int) = n := by simp [IntKind.wrap, IntKind.bits, IntKind.signed]; omega
    have w2 : IntKind.i64.wrap (c : Int) = c := by simp [IntKind.wrap, IntKind.bits, IntKind.signed]; omega
    have hb : ¬ ((281474976710656 : Int) < (i'.bytes : Int) * (c : Int)) := by
      have : i'.bytes * c ≤ 1099511627776 := by rw [Nat.mul_comm]; exact h2
      have := Int.ofNat_le.2 this
      simp at this
      omega
    have hrun : (Instr.makeSlice t (a.eval ln) (a.eval cp)).run P w =
        .ok (.slice (some ⟨w.heap.size, 0, none⟩) n c) (w.alloc (.cells ((Array.range (c * i'.size)).map fun j => zv.cells[j % zv.cells.size]!) e)) := by
      have e1 : ¬ ((c : Int) < 0) := by omega
      have e2 : ¬ ((n : Int) < 0) := by omega
      have e3 : ¬ ((c : Int) < (n : Int)) := by omega
      by_cases hc0 : c = 0
      · subst hc0
        obtain rfl : n = 0 := by omega
        have hr0 : (Array.range 0 : Array Nat) = #[] := rfl
        simp [Instr.makeSlice, run_underlying hu, hv1, hv2, asInt, asIntOf, typeInfo, hi, sizeOf, newRow, IntKind.wrap, IntKind.bits, IntKind.signed, hr0]
      · have : ¬ (c * i'.size = 0) := fun h => by rcases Nat.mul_eq_zero.1 h with h | h <;> contradiction
        simp [Instr.makeSlice, run_underlying hu, hv1, hv2, asInt, asIntOf, typeInfo, hi, sizeOf, w1, w2, hb, e1, e2, e3, this, hz0, newRow]
    refine ⟨_, _, .cells ((Array.range (c * i'.size)).map fun j => zv.cells[j % zv.cells.size]!) e, ⟨w.heap.size, 0, 0⟩, by simp [execOp, hop, hrun]; exact ⟨rfl, rfl⟩, by exact rfl, rfl, ?_, fun ι' hk _ _ => ?_⟩
    · refine ⟨_, _, _, rfl, fun j x hx => ?_, fun _ j _ h => by simp at h, fun h => absurd rfl h, fun t ht => by cases ht⟩
      obtain ⟨v, hv, hr⟩ := zeros_rel hzr c j x hx
      rw [hsz] at hv
      rw [hsz]
      exact ⟨v, by simpa using hv, hr⟩
    · simp only [VRel, locOf, capRel]
      exact ⟨_, c, hk, rfl, h1, rfl⟩
  case h_5 src dst x hop =>
    simp only [Option.bind_eq_some_iff] at hs
    obtain ⟨y, hy, hs⟩ := hs
    split at hs
    case h_2 => cases hs
    rename_i e h1 h2
    split at hs
    case h_2 => cases hs
    rename_i h3
    simp only [Option.some.injEq] at hs; subst hs
    simp only [AOp.val, Option.bind_eq_some_iff] at hz
    obtain ⟨s, hs', hz⟩ := hz
    split at hz
    case isFalse => cases hz
    simp only [Option.some.injEq, Prod.mk.injEq] at hz
    obtain ⟨rfl, rfl⟩ := hz
    obtain ⟨b, hb, hbs⟩ := (X hy).asStr hs'
    have hbl : b.size = s.length := by rw [Lib.size_eq, ← hbs, List.length_map]
    have hge := grownCap_ge w b.size 0 e
    have hsz : (bytesRow b (grownCap w b.size 0 e)).size = grownCap w b.size 0 e := by
      unfold bytesRow
      simp only [Array.size_append, Array.size_map, Array.size_replicate]
      have : b.data.size = b.size := rfl
      omega
    refine ⟨_, _, _, ⟨w.heap.size, 0, grownCap w b.size 0 e⟩, by simp [execOp, hop, hb, run_bytes_of_string w src dst e b h1 h2 h3]; exact ⟨rfl, rfl⟩, by exact rfl, rfl, ?_, fun ι' hk _ _ => ?_⟩
    · refine ⟨_, _, _, rfl, fun j x hx => ?_, fun _ j hj h => ?_, fun _ => by simp only []; rw [hsz]; omega, fun t ht => by cases ht⟩
      · simp only [List.getElem?_map, Option.map_eq_some_iff] at hx
        obtain ⟨n, hn, rfl⟩ := hx
        unfold bytesRel at hbs
        rw [← hbs] at hn
        simp only [List.getElem?_map, Option.map_eq_some_iff] at hn
        obtain ⟨u, hu, rfl⟩ := hn
        have hj : j < b.data.size := by simpa using (List.getElem?_eq_some_iff.1 hu).1
        refine ⟨.int .u8 u.toNat, ?_, by simp only [VRel]⟩
        simp only [Nat.zero_add]
        rw [bytesRow_at b _ j hj]
        have := (List.getElem?_eq_some_iff.1 hu).2
        rw [← this]; rfl
      · simp only [] at h; omega
    · simp only [VRel, locOf, capRel]
      exact ⟨_, grownCap w b.size 0 e, hk, by rw [hbl], by omega, .inr (by simp)⟩
  case h_6 t x hop =>
    simp only [Option.bind_eq_some_iff] at hs
    obtain ⟨y, hy, hs⟩ := hs
    split at hs
    case h_2 => cases hs
    rename_i hu
    simp only [Option.some.injEq] at hs; subst hs
    simp only [AOp.val, Option.map_eq_some_iff, Prod.mk.injEq] at hz
    obtain ⟨s, hs', rfl, rfl⟩ := hz
    obtain ⟨b, hb, hbs⟩ := (X hy).asStr hs'
    refine ⟨_, _, .stringIter b 0, ⟨w.heap.size, 0, 0⟩, by simp [execOp, hop, hb, run_range_string w t b hu]; exact ⟨rfl, rfl⟩, by exact rfl, rfl, ⟨rfl, b, hbs, rfl⟩, fun ι' hk _ _ => ?_⟩
    simp only [VRel, locOf]
    exact ⟨_, hk, rfl⟩
  case h_7 => cases hs

end Go.Lite
