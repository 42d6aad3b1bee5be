/-
  Each operation that leaves the heap alone comes, in the model, to what the interpreter says: parts.
-/
import Derived.Test.YtibjdfajafilhaaLOpsP
namespace Go.Lite
open Go
set_option linter.unusedSimpArgs false
set_option linter.unusedVariables false

variable {P : Program} {nb : NB} {ι : Emb} {H : Heap} {w : World} {fr : Fr} {a : Act} {nt : Nat}

/-! ### Parts put together -/

theorem fill_cells (off : Nat) : ∀ (vs : List Value) (k : Nat) (cells : Array Value), off + k + vs.length ≤ cells.size →
    ((vs.zipIdx k).foldl (fun (cs : Array Value) (p : Value × Nat) => cs.setIfInBounds (off + p.2) p.1) cells).toList = cells.toList.take (off + k) ++ vs ++ cells.toList.drop (off + k + vs.length)
  | [], k, cells, h => by simp
  | v :: vs, k, cells, h => by
    simp only [List.length_cons] at h
    simp only [List.zipIdx_cons, List.foldl_cons]
    rw [fill_cells off vs (k + 1) _ (by simp only [Array.size_setIfInBounds]; omega)]
    have hlt : off + k < cells.toList.length := by simp; omega
    simp only [Array.toList_setIfInBounds, List.length_cons]
    rw [show off + (k + 1) = off + k + 1 by omega]
    rw [List.take_add_one, List.getElem?_set_self hlt, List.take_set_of_le (Nat.le_refl _)]
    rw [List.drop_set_of_lt (by omega)]
    simp only [Option.toList_some, List.append_assoc, List.singleton_append]
    rw [show off + k + 1 + vs.length = off + k + (vs.length + 1) by omega]

theorem fill_sound {place place' : Nat → Option (Nat × Nat)} : ∀ {ps : List (Nat × Value)} {qs : List (Nat × Nat × AV)} {cells : Array Value} {cs cs' : List AV},
    ps.length = qs.length → (∀ (j i : Nat) (v : Value) (o s : Nat) (x : AV), ps[j]? = some (i, v) → qs[j]? = some (o, s, x) → place i = some (o, s) ∧ VRel nb ι x v) →
    VRels nb ι cs cells.toList → fillAt cs qs = some cs' → ∃ out, Instr.fill place cells ps = some out ∧ VRels nb ι cs' out.toList
  | [], [], cells, cs, cs', _, _, hc, h => by
    simp [fillAt] at h; subst h
    exact ⟨cells, rfl, hc⟩
  | [], q :: qs, cells, cs, cs', hl, _, _, _ => by simp at hl
  | p :: ps, [], cells, cs, cs', hl, _, _, _ => by simp at hl
  | (i, v) :: ps, (o, s, x) :: qs, cells, cs, cs', hl, hq, hc, h => by
    obtain ⟨hp, hx⟩ := hq 0 i v o s x rfl rfl
    simp only [fillAt, Option.bind_eq_some_iff] at h
    obtain ⟨vs, hvs, h⟩ := h
    by_cases hsz : vs.length = s ∧ o + vs.length ≤ cs.length
    case neg => rw [if_neg hsz] at h; cases h
    rw [if_pos hsz] at h
    have hcells := hx.cells hvs
    have hlen : v.cells.size = vs.length := by simpa using hcells.length
    have hclen : cells.size = cs.length := by simpa using hc.length
    have hc' : VRels nb ι (putAt cs o vs) ((v.cells.toList.zipIdx 0).foldl (fun (cs : Array Value) (p : Value × Nat) => cs.setIfInBounds (o + p.2) p.1) cells).toList := by
      rw [fill_cells o v.cells.toList 0 cells (by simp; omega)]
      have := hc.putAt o hcells
      simpa using this
    obtain ⟨out, h1, h2⟩ := fill_sound (place := place) (place' := place') (ps := ps) (qs := qs) (by simpa using hl) (fun j i v o s x hj hk => hq (j + 1) i v o s x (by simpa using hj) (by simpa using hk)) hc' h
    refine ⟨out, ?_, h2⟩
    have he : (v.cells.zipIdx.foldl (fun (cs : Array Value) (p : Value × Nat) => cs.setIfInBounds (o + p.2) p.1) cells) = (v.cells.toList.zipIdx 0).foldl (fun (cs : Array Value) (p : Value × Nat) => cs.setIfInBounds (o + p.2) p.1) cells := by
      rw [← Array.foldl_toList, Array.toList_zipIdx]
    simp only [Instr.fill, hp]
    rw [if_neg (by simp; omega)]
    rw [← h1]
    exact congrArg (fun c => Instr.fill place c ps) he

theorem partsOf_sound (hg : P.globals.size ≤ nb) (hf : FRel nb ι fr a.tmps) {place : Nat → Option (Nat × Nat)} : ∀ {ps : List (Nat × Operand)} {qs : List (Nat × Nat × SX)}, partsOf P nt place ps = some qs →
    ps.length = qs.length ∧ ∀ (j i : Nat) (v : Value) (o s : Nat) (x : AV), (ps.map fun p => (p.1, a.eval p.2))[j]? = some (i, v) → (qs.map fun q => (q.1, q.2.1, q.2.2.ev fr))[j]? = some (o, s, x) → place i = some (o, s) ∧ VRel nb ι x v
  | [], qs, h => by simp [partsOf] at h; subst h; simp
  | (i, y) :: ps, qs, h => by
    simp only [partsOf, Option.bind_eq_some_iff, Option.map_eq_some_iff] at h
    obtain ⟨q, hq, z, hz, rs, hr, rfl⟩ := h
    obtain ⟨h1, h2⟩ := partsOf_sound hg hf hr
    refine ⟨by simp [h1], fun j i' v o s x hj hk => ?_⟩
    cases j with
    | zero =>
      simp at hj hk
      obtain ⟨rfl, rfl⟩ := hj
      obtain ⟨rfl, rfl, rfl⟩ := hk
      exact ⟨hq, slimX_sound hg hf hz⟩
    | succ j => exact h2 j i' v o s x (by simpa using hj) (by simpa using hk)

/-! ### Arithmetic -/

theorem toNat_inj_list : ∀ {x y : List UInt8}, x.map (·.toNat) = y.map (·.toNat) → x = y
  | [], [], _ => rfl
  | [], b :: y, h => by simp at h
  | a :: x, [], h => by simp at h
  | a :: x, b :: y, h => by
    simp only [List.map_cons, List.cons.injEq] at h
    rw [UInt8.toNat_inj.1 h.1, toNat_inj_list h.2]

theorem beq_bytes {s t : List Nat} {b c : ByteArray} (h : bytesRel s b) (h' : bytesRel t c) : (b.toList == c.toList) = (s == t) := by
  unfold bytesRel at h h'
  subst h; subst h'
  rw [Lib.toList_data, Lib.toList_data, Bool.eq_iff_iff]
  simp only [beq_iff_eq]
  exact ⟨fun e => by rw [e], toNat_inj_list⟩

theorem less_bytes : ∀ (x y : List UInt8), Op.bytesLess x y = less (x.map (·.toNat)) (y.map (·.toNat))
  | x, [] => by cases x <;> simp [Op.bytesLess, less]
  | [], b :: y => by simp [Op.bytesLess, less]
  | a :: x, b :: y => by
    simp only [Op.bytesLess, List.map_cons, less, less_bytes x y]
    have h1 : decide (a < b) = Nat.blt a.toNat b.toNat := by
      rw [Bool.eq_iff_iff]; simp [Nat.blt, UInt8.lt_iff_toNat_lt]; omega
    have h2 : (a == b) = (a.toNat == b.toNat) := by
      rw [Bool.eq_iff_iff]; simp [UInt8.toNat_inj]
    rw [h1, h2]

theorem intBin_sound {op : BinOp} {t : TypeId} {k : IntKind} {x y : Int} {z : AV} (h : intBin op k x y = some z) :
    ∃ v, (binOp op t (.int k x) (.int k y)).run P w = .ok v w ∧ VRel nb ι z v := by
  cases op <;> simp only [intBin, intBits, Option.some.injEq, reduceCtorEq, Option.map_eq_some_iff, Option.map_some, Option.map_none] at h
  case quo =>
    split at h <;> simp only [Option.some.injEq, reduceCtorEq] at h
    subst h
    exact ⟨_, by simp only [binOp, ne_eq, not_true_eq_false, if_false, Op.intDiv]; rw [if_neg ‹_›]; rfl, by simp only [VRel]⟩
  case rem =>
    split at h <;> simp only [Option.some.injEq, reduceCtorEq] at h
    subst h
    exact ⟨_, by simp only [binOp, ne_eq, not_true_eq_false, if_false, Op.intDiv]; rw [if_neg ‹_›]; rfl, by simp only [VRel]⟩
  all_goals (subst h; exact ⟨_, by simp only [binOp, ne_eq, not_true_eq_false, if_false, Op.intArith, Op.intCmp, Op.intBits]; rfl, by simp only [VRel]⟩)

theorem shiftBin_sound {op : BinOp} {k yk : IntKind} {x y : Int} {z : AV} (h : shiftBin op k x y = some z) :
    ∃ v, (Op.shift op k x yk y).run P w = .ok v w ∧ VRel nb ι z v := by
  unfold shiftBin at h
  split at h <;> simp only [reduceCtorEq] at h
  cases op <;> simp only [Option.some.injEq, reduceCtorEq] at h
  all_goals (subst h; exact ⟨_, by unfold Op.shift; rw [if_neg ‹_›]; rfl, by simp only [VRel]⟩)

theorem strBin_sound {op : BinOp} {s t : List Nat} {b c : ByteArray} {z : AV} (hs : bytesRel s b) (ht : bytesRel t c) (h : strBin op s t = some z) :
    ∃ v, (Op.stringOp op b c).run P w = .ok v w ∧ VRel nb ι z v := by
  have he := beq_bytes hs ht
  have hl : Op.bytesLess b.toList c.toList = less s t := by
    rw [less_bytes, Lib.toList_data, Lib.toList_data]; unfold bytesRel at hs ht; rw [hs, ht]
  cases op <;> simp only [strBin, Option.some.injEq, reduceCtorEq] at h
  case add =>
    split at h <;> simp only [Option.some.injEq, reduceCtorEq] at h
    rename_i hle
    subst h
    have h1 : b.size = s.length := by rw [Lib.size_eq, ← hs, List.length_map]
    have h2 : c.size = t.length := by rw [Lib.size_eq, ← ht, List.length_map]
    refine ⟨.string (b ++ c), ?_, ?_⟩
    · unfold Op.stringOp
      simp only []
      rw [if_neg]
      · rfl
      · rw [h1, h2]; simp [IntKind.max, IntKind.signed, IntKind.bits]; omega
    · simp only [VRel]
      refine ⟨_, rfl, ?_⟩
      unfold bytesRel at hs ht ⊢
      rw [← hs, ← ht]
      simp [ByteArray.data_append]
  all_goals (subst h; exact ⟨_, by simp only [Op.stringOp, he, hl]; rfl, by simp only [VRel]⟩)

end Go.Lite
