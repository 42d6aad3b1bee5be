/-
  What is the same: datum.Same, the document's; whether a symbol is so.
-/
import Derived.Test.YtibjdfajafilhaaEText
namespace Go.Lite
open Go Go.Proofs
set_option maxRecDepth 100000
set_option linter.unusedSimpArgs false
set_option linter.unusedVariables false

/-- of two lists, as long, one by one -/
def zipAll {α β : Type} (p : α → β → Bool) : List α → List β → Bool
  | [], [] => true
  | x :: xs, y :: ys => p x y && zipAll p xs ys
  | _, _ => false

theorem zipAll_iff {α β : Type} {p : α → β → Bool} : ∀ (l : List α) (l' : List β), l.length = l'.length → (zipAll p l l' = true ↔ ∀ (i : Nat) x y, l[i]? = some x → l'[i]? = some y → p x y = true)
  | [], [], _ => by simp [zipAll]
  | [], y :: ys, h => by simp at h
  | x :: xs, [], h => by simp at h
  | x :: xs, y :: ys, h => by
    rw [zipAll, Bool.and_eq_true, zipAll_iff xs ys (by simpa using h)]
    constructor
    · rintro ⟨h1, h2⟩ i a b ha hb
      cases i with
      | zero => simp at ha hb; subst ha; subst hb; exact h1
      | succ i => exact h2 i a b (by simpa using ha) (by simpa using hb)
    · intro h
      exact ⟨h 0 x y rfl rfl, fun i a b ha hb => h (i + 1) a b (by simpa using ha) (by simpa using hb)⟩

theorem zipAll_len {α β : Type} {p : α → β → Bool} : ∀ (l : List α) (l' : List β), l.length ≠ l'.length → zipAll p l l' = false
  | [], [], h => by simp at h
  | [], y :: ys, h => rfl
  | x :: xs, [], h => rfl
  | x :: xs, y :: ys, h => by rw [zipAll, zipAll_len xs ys (by simpa using h), Bool.and_false]

mutual
/-- are two data the same? -/
def D.same : D → D → Bool
  | .mk k t ms l _, .mk k' t' ms' l' _ => k == k' && (t == t' && (zipAll (· == ·) ms ms' && D.sames l l'))
def D.sames : List D → List D → Bool
  | [], [] => true
  | x :: xs, y :: ys => D.same x y && D.sames xs ys
  | _, _ => false
end

theorem D.sames_eq : ∀ l l' : List D, D.sames l l' = zipAll D.same l l'
  | [], [] => by simp [D.sames, zipAll]
  | [], y :: ys => by simp [D.sames, zipAll]
  | x :: xs, [] => by simp [D.sames, zipAll]
  | x :: xs, y :: ys => by rw [D.sames, zipAll, D.sames_eq xs ys]

theorem get2 {α β : Type} {l : List α} {l' : List β} {i : Nat} (h : l.length = l'.length) (hi : i < l.length) : ∃ x y, l[i]? = some x ∧ l'[i]? = some y :=
  ⟨l[i], l'[i]'(by omega), List.getElem?_eq_getElem hi, List.getElem?_eq_getElem (by omega)⟩

theorem next_all {α β : Type} {p : α → β → Bool} {l : List α} {l' : List β} {i : Nat} {x : α} {y : β} (h : ∀ j, j < i → ∀ a b, l[j]? = some a → l'[j]? = some b → p a b = true) (hx : l[i]? = some x) (hy : l'[i]? = some y) (hp : p x y = true) :
    ∀ j, j < i + 1 → ∀ a b, l[j]? = some a → l'[j]? = some b → p a b = true := fun j hj a b ha hb => by
  rcases Nat.lt_or_ge j i with h1 | h1
  · exact h j h1 a b ha hb
  · obtain rfl : j = i := by omega
    rw [hx] at ha
    rw [hy] at hb
    simp only [Option.some.injEq] at ha hb
    subst ha; subst hb; exact hp

theorem all_end {α β : Type} {p : α → β → Bool} {l : List α} {l' : List β} (hl : l.length = l'.length) (h : ∀ j, j < l.length → ∀ a b, l[j]? = some a → l'[j]? = some b → p a b = true) : zipAll p l l' = true :=
  (zipAll_iff l l' hl).2 fun i a b ha hb => h i (List.getElem?_eq_some_iff.1 ha).1 a b ha hb

theorem all_not {α β : Type} {p : α → β → Bool} {l : List α} {l' : List β} (hl : l.length = l'.length) {i : Nat} {x : α} {y : β} (hx : l[i]? = some x) (hy : l'[i]? = some y) (hp : p x y = false) : zipAll p l l' = false := by
  cases h : zipAll p l l' with
  | false => rfl
  | true =>
    have := (zipAll_iff l l' hl).1 h i x y hx hy
    rw [hp] at this; cases this

theorem len_bne {a b : Nat} : (((a : Nat) : Int) != ((b : Nat) : Int)) = !(a == b) := by
  by_cases h : a = b
  · subst h; simp
  · have h1 : ((a : Int) == (b : Int)) = false := by simp; omega
    have h2 : (a == b) = false := by simpa using h
    simp only [bne, h1, h2]

theorem equal34 (ms ms' : List Int) (hl : ms.length ≤ 4611686018427387904) : Ret P2 34 [vInts ms, vInts ms'] (.bool (zipAll (· == ·) ms ms')) := by
  refine Ret.of rfl (code34 _ _) rfl rfl (fun H => by simp -implicitDefEqProofs only [↓v_lenS, SB, POp.val, AOp.val, WOp.val, Lite.bin, intBin, strBin, eqv, eqMany, eq1, AV.asBool, AV.asInt, AV.asNat, AV.asPtr, AV.asStr, resVals, ResV.val, oneOr, wants, skipped, fillAt, putAt, capOf, optNat, bnd, Nat.reduceBEq, reduceIte, Nat.reduceAdd, Nat.reduceLeDiff, Nat.reduceEqDiff, Nat.reduceSub, Nat.reduceMul, Nat.reduceDiv, SOper.again, same, sameBlk, sameCap, Nat.reduceBneDiff, s_draw2, s_pair, k_pair, asunder, SOper.into, Bool.not_false, Bool.not_true, DS]) ?_
  refine (Ev.ge (ms.length + 1)).mono fun n hge H => ?_
  have hb := len_bne (a := ms.length) (b := ms'.length)
  by_cases hll : ms.length = ms'.length
  · have h1 : (ms.length == ms'.length) = true := by simpa using hll
    rw [h1] at hb
    simp -implicitDefEqProofs only [c34, ↓v_lenS, SB, POp.val, AOp.val, WOp.val, Lite.bin, intBin, strBin, eqv, eqMany, eq1, AV.asBool, AV.asInt, AV.asNat, AV.asPtr, AV.asStr, resVals, ResV.val, oneOr, wants, skipped, fillAt, putAt, capOf, optNat, bnd, Nat.reduceBEq, reduceIte, Nat.reduceAdd, Nat.reduceLeDiff, Nat.reduceEqDiff, Nat.reduceSub, Nat.reduceMul, Nat.reduceDiv, SOper.again, same, sameBlk, sameCap, Nat.reduceBneDiff, s_draw2, s_pair, k_pair, asunder, SOper.into, Bool.not_false, Bool.not_true, CL, DS, hb]
    refine loop_rounds ms.length (fun i fr H => (∀ j, j < i → ∀ a b, ms[j]? = some a → ms'[j]? = some b → (a == b) = true) ∧ fr 0 = vInts ms ∧ fr 1 = vInts ms' ∧ fr 12 = .int .i64 ms.length ∧ fr 13 = .int .i64 i) ?_ ?_ n 0 _ _ (by omega) (by omega) ?_
    · rintro i fr H K' hi ⟨hall, h0, h1, hx1, hx2⟩ hKe hKr hK
      obtain ⟨x, y, hx, hy⟩ := get2 hll hi
      have hlt : (i : Int) < (ms.length : Int) := by omega
      have hw := wrap_succ hi (by omega)
      cases hp : (x == y) with
      | true =>
        have hnext := next_all (p := (· == ·)) hall hx hy hp
        have hp' : (x != y) = false := by simp [bne, hp]
        simp -implicitDefEqProofs only [c34_l0, ↓v_lenS, SB, POp.val, AOp.val, WOp.val, Lite.bin, intBin, strBin, eqv, eqMany, eq1, AV.asBool, AV.asInt, AV.asNat, AV.asPtr, AV.asStr, resVals, ResV.val, oneOr, wants, skipped, fillAt, putAt, capOf, optNat, bnd, Nat.reduceBEq, reduceIte, Nat.reduceAdd, Nat.reduceLeDiff, Nat.reduceEqDiff, Nat.reduceSub, Nat.reduceMul, Nat.reduceDiv, SOper.again, same, sameBlk, sameCap, Nat.reduceBneDiff, s_draw2, s_pair, k_pair, asunder, SOper.into, Bool.not_false, Bool.not_true, CL, DS, h0, h1, hx1, hx2, hlt, iaddr_vInts hx, iaddr_vInts hy, hp', hw]
        refine hK _ _ ⟨hnext, ?_⟩
        simp -implicitDefEqProofs only [↓v_lenS, SB, POp.val, AOp.val, WOp.val, Lite.bin, intBin, strBin, eqv, eqMany, eq1, AV.asBool, AV.asInt, AV.asNat, AV.asPtr, AV.asStr, resVals, ResV.val, oneOr, wants, skipped, fillAt, putAt, capOf, optNat, bnd, Nat.reduceBEq, reduceIte, Nat.reduceAdd, Nat.reduceLeDiff, Nat.reduceEqDiff, Nat.reduceSub, Nat.reduceMul, Nat.reduceDiv, SOper.again, same, sameBlk, sameCap, Nat.reduceBneDiff, s_draw2, s_pair, k_pair, asunder, SOper.into, Bool.not_false, Bool.not_true, h0, h1, hx1, hx2]
      | false =>
        have hno := all_not (p := (· == ·)) hll hx hy hp
        have hp' : (x != y) = true := by simp [bne, hp]
        simp -implicitDefEqProofs only [c34_l0, ↓v_lenS, SB, POp.val, AOp.val, WOp.val, Lite.bin, intBin, strBin, eqv, eqMany, eq1, AV.asBool, AV.asInt, AV.asNat, AV.asPtr, AV.asStr, resVals, ResV.val, oneOr, wants, skipped, fillAt, putAt, capOf, optNat, bnd, Nat.reduceBEq, reduceIte, Nat.reduceAdd, Nat.reduceLeDiff, Nat.reduceEqDiff, Nat.reduceSub, Nat.reduceMul, Nat.reduceDiv, SOper.again, same, sameBlk, sameCap, Nat.reduceBneDiff, s_draw2, s_pair, k_pair, asunder, SOper.into, Bool.not_false, Bool.not_true, CL, DS, h0, h1, hx1, hx2, hlt, iaddr_vInts hx, iaddr_vInts hy, hp', hw, hKr, gives_ret, hno]
        exact ⟨_, rfl⟩
    · rintro fr H K' ⟨hall, h0, h1, hx1, hx2⟩ hKe hKr
      have hyes := all_end (p := (· == ·)) hll hall
      simp -implicitDefEqProofs only [c34_l0, ↓v_lenS, SB, POp.val, AOp.val, WOp.val, Lite.bin, intBin, strBin, eqv, eqMany, eq1, AV.asBool, AV.asInt, AV.asNat, AV.asPtr, AV.asStr, resVals, ResV.val, oneOr, wants, skipped, fillAt, putAt, capOf, optNat, bnd, Nat.reduceBEq, reduceIte, Nat.reduceAdd, Nat.reduceLeDiff, Nat.reduceEqDiff, Nat.reduceSub, Nat.reduceMul, Nat.reduceDiv, SOper.again, same, sameBlk, sameCap, Nat.reduceBneDiff, s_draw2, s_pair, k_pair, asunder, SOper.into, Bool.not_false, Bool.not_true, DS, h0, h1, hx1, hx2, Int.lt_irrefl, hKe, gives_ret, hyes]
      exact ⟨_, rfl⟩
    · simp -implicitDefEqProofs only [↓v_lenS, SB, POp.val, AOp.val, WOp.val, Lite.bin, intBin, strBin, eqv, eqMany, eq1, AV.asBool, AV.asInt, AV.asNat, AV.asPtr, AV.asStr, resVals, ResV.val, oneOr, wants, skipped, fillAt, putAt, capOf, optNat, bnd, Nat.reduceBEq, reduceIte, Nat.reduceAdd, Nat.reduceLeDiff, Nat.reduceEqDiff, Nat.reduceSub, Nat.reduceMul, Nat.reduceDiv, SOper.again, same, sameBlk, sameCap, Nat.reduceBneDiff, s_draw2, s_pair, k_pair, asunder, SOper.into, Bool.not_false, Bool.not_true]
      exact ⟨fun j hj => by omega, rfl⟩
  · have h1 : (ms.length == ms'.length) = false := by simpa using hll
    rw [h1] at hb
    simp -implicitDefEqProofs only [c34, ↓v_lenS, SB, POp.val, AOp.val, WOp.val, Lite.bin, intBin, strBin, eqv, eqMany, eq1, AV.asBool, AV.asInt, AV.asNat, AV.asPtr, AV.asStr, resVals, ResV.val, oneOr, wants, skipped, fillAt, putAt, capOf, optNat, bnd, Nat.reduceBEq, reduceIte, Nat.reduceAdd, Nat.reduceLeDiff, Nat.reduceEqDiff, Nat.reduceSub, Nat.reduceMul, Nat.reduceDiv, SOper.again, same, sameBlk, sameCap, Nat.reduceBneDiff, s_draw2, s_pair, k_pair, asunder, SOper.into, Bool.not_false, Bool.not_true, CL, DS, hb, Ends, gives_ret, zipAll_len ms ms' hll]
    exact ⟨_, rfl⟩

theorem equal36 (ms ms' : List Int) (hl : ms.length ≤ 4611686018427387904) : Ret P2 36 [vInts ms, vInts ms'] (.bool (zipAll (· == ·) ms ms')) := by
  refine Ret.of rfl (code36 _ _) rfl rfl (fun H => by simp -implicitDefEqProofs only [↓v_lenS, SB, POp.val, AOp.val, WOp.val, Lite.bin, intBin, strBin, eqv, eqMany, eq1, AV.asBool, AV.asInt, AV.asNat, AV.asPtr, AV.asStr, resVals, ResV.val, oneOr, wants, skipped, fillAt, putAt, capOf, optNat, bnd, Nat.reduceBEq, reduceIte, Nat.reduceAdd, Nat.reduceLeDiff, Nat.reduceEqDiff, Nat.reduceSub, Nat.reduceMul, Nat.reduceDiv, SOper.again, same, sameBlk, sameCap, Nat.reduceBneDiff, s_draw2, s_pair, k_pair, asunder, SOper.into, Bool.not_false, Bool.not_true, DS]) ?_
  refine (Ev.ge (ms.length + 1)).mono fun n hge H => ?_
  have hb := len_bne (a := ms.length) (b := ms'.length)
  by_cases hll : ms.length = ms'.length
  · have h1 : (ms.length == ms'.length) = true := by simpa using hll
    rw [h1] at hb
    simp -implicitDefEqProofs only [c36, ↓v_lenS, SB, POp.val, AOp.val, WOp.val, Lite.bin, intBin, strBin, eqv, eqMany, eq1, AV.asBool, AV.asInt, AV.asNat, AV.asPtr, AV.asStr, resVals, ResV.val, oneOr, wants, skipped, fillAt, putAt, capOf, optNat, bnd, Nat.reduceBEq, reduceIte, Nat.reduceAdd, Nat.reduceLeDiff, Nat.reduceEqDiff, Nat.reduceSub, Nat.reduceMul, Nat.reduceDiv, SOper.again, same, sameBlk, sameCap, Nat.reduceBneDiff, s_draw2, s_pair, k_pair, asunder, SOper.into, Bool.not_false, Bool.not_true, CL, DS, hb]
    refine loop_rounds ms.length (fun i fr H => (∀ j, j < i → ∀ a b, ms[j]? = some a → ms'[j]? = some b → (a == b) = true) ∧ fr 0 = vInts ms ∧ fr 1 = vInts ms' ∧ True ∧ fr 5 = .int .i64 i) ?_ ?_ n 0 _ _ (by omega) (by omega) ?_
    · rintro i fr H K' hi ⟨hall, h0, h1, hx1, hx2⟩ hKe hKr hK
      obtain ⟨x, y, hx, hy⟩ := get2 hll hi
      have hlt : (i : Int) < (ms.length : Int) := by omega
      have hw := wrap_succ hi (by omega)
      cases hp : (x == y) with
      | true =>
        have hnext := next_all (p := (· == ·)) hall hx hy hp
        have hp' : (x != y) = false := by simp [bne, hp]
        simp -implicitDefEqProofs only [c36_l0, ↓v_lenS, SB, POp.val, AOp.val, WOp.val, Lite.bin, intBin, strBin, eqv, eqMany, eq1, AV.asBool, AV.asInt, AV.asNat, AV.asPtr, AV.asStr, resVals, ResV.val, oneOr, wants, skipped, fillAt, putAt, capOf, optNat, bnd, Nat.reduceBEq, reduceIte, Nat.reduceAdd, Nat.reduceLeDiff, Nat.reduceEqDiff, Nat.reduceSub, Nat.reduceMul, Nat.reduceDiv, SOper.again, same, sameBlk, sameCap, Nat.reduceBneDiff, s_draw2, s_pair, k_pair, asunder, SOper.into, Bool.not_false, Bool.not_true, CL, DS, h0, h1, hx1, hx2, hlt, iaddr_vInts hx, iaddr_vInts hy, hp', hw]
        refine hK _ _ ⟨hnext, ?_⟩
        simp -implicitDefEqProofs only [↓v_lenS, SB, POp.val, AOp.val, WOp.val, Lite.bin, intBin, strBin, eqv, eqMany, eq1, AV.asBool, AV.asInt, AV.asNat, AV.asPtr, AV.asStr, resVals, ResV.val, oneOr, wants, skipped, fillAt, putAt, capOf, optNat, bnd, Nat.reduceBEq, reduceIte, Nat.reduceAdd, Nat.reduceLeDiff, Nat.reduceEqDiff, Nat.reduceSub, Nat.reduceMul, Nat.reduceDiv, SOper.again, same, sameBlk, sameCap, Nat.reduceBneDiff, s_draw2, s_pair, k_pair, asunder, SOper.into, Bool.not_false, Bool.not_true, h0, h1, hx1, hx2]
      | false =>
        have hno := all_not (p := (· == ·)) hll hx hy hp
        have hp' : (x != y) = true := by simp [bne, hp]
        simp -implicitDefEqProofs only [c36_l0, ↓v_lenS, SB, POp.val, AOp.val, WOp.val, Lite.bin, intBin, strBin, eqv, eqMany, eq1, AV.asBool, AV.asInt, AV.asNat, AV.asPtr, AV.asStr, resVals, ResV.val, oneOr, wants, skipped, fillAt, putAt, capOf, optNat, bnd, Nat.reduceBEq, reduceIte, Nat.reduceAdd, Nat.reduceLeDiff, Nat.reduceEqDiff, Nat.reduceSub, Nat.reduceMul, Nat.reduceDiv, SOper.again, same, sameBlk, sameCap, Nat.reduceBneDiff, s_draw2, s_pair, k_pair, asunder, SOper.into, Bool.not_false, Bool.not_true, CL, DS, h0, h1, hx1, hx2, hlt, iaddr_vInts hx, iaddr_vInts hy, hp', hw, hKr, gives_ret, hno]
        exact ⟨_, rfl⟩
    · rintro fr H K' ⟨hall, h0, h1, hx1, hx2⟩ hKe hKr
      have hyes := all_end (p := (· == ·)) hll hall
      simp -implicitDefEqProofs only [c36_l0, ↓v_lenS, SB, POp.val, AOp.val, WOp.val, Lite.bin, intBin, strBin, eqv, eqMany, eq1, AV.asBool, AV.asInt, AV.asNat, AV.asPtr, AV.asStr, resVals, ResV.val, oneOr, wants, skipped, fillAt, putAt, capOf, optNat, bnd, Nat.reduceBEq, reduceIte, Nat.reduceAdd, Nat.reduceLeDiff, Nat.reduceEqDiff, Nat.reduceSub, Nat.reduceMul, Nat.reduceDiv, SOper.again, same, sameBlk, sameCap, Nat.reduceBneDiff, s_draw2, s_pair, k_pair, asunder, SOper.into, Bool.not_false, Bool.not_true, DS, h0, h1, hx1, hx2, Int.lt_irrefl, hKe, gives_ret, hyes]
      exact ⟨_, rfl⟩
    · simp -implicitDefEqProofs only [↓v_lenS, SB, POp.val, AOp.val, WOp.val, Lite.bin, intBin, strBin, eqv, eqMany, eq1, AV.asBool, AV.asInt, AV.asNat, AV.asPtr, AV.asStr, resVals, ResV.val, oneOr, wants, skipped, fillAt, putAt, capOf, optNat, bnd, Nat.reduceBEq, reduceIte, Nat.reduceAdd, Nat.reduceLeDiff, Nat.reduceEqDiff, Nat.reduceSub, Nat.reduceMul, Nat.reduceDiv, SOper.again, same, sameBlk, sameCap, Nat.reduceBneDiff, s_draw2, s_pair, k_pair, asunder, SOper.into, Bool.not_false, Bool.not_true]
      exact ⟨fun j hj => by omega, rfl⟩
  · have h1 : (ms.length == ms'.length) = false := by simpa using hll
    rw [h1] at hb
    simp -implicitDefEqProofs only [c36, ↓v_lenS, SB, POp.val, AOp.val, WOp.val, Lite.bin, intBin, strBin, eqv, eqMany, eq1, AV.asBool, AV.asInt, AV.asNat, AV.asPtr, AV.asStr, resVals, ResV.val, oneOr, wants, skipped, fillAt, putAt, capOf, optNat, bnd, Nat.reduceBEq, reduceIte, Nat.reduceAdd, Nat.reduceLeDiff, Nat.reduceEqDiff, Nat.reduceSub, Nat.reduceMul, Nat.reduceDiv, SOper.again, same, sameBlk, sameCap, Nat.reduceBneDiff, s_draw2, s_pair, k_pair, asunder, SOper.into, Bool.not_false, Bool.not_true, CL, DS, hb, Ends, gives_ret, zipAll_len ms ms' hll]
    exact ⟨_, rfl⟩


theorem equalfunc35 (l l' : List D) (hl : l.length ≤ 4611686018427387904) (ih : ∀ d ∈ l, ∀ d', Ret P2 21 [d.v, D.v d'] (.bool (d.same d'))) : Ret P2 35 [vData l, vData l', .func 21 []] (.bool (D.sames l l')) := by
  rw [D.sames_eq]
  refine Ret.of rfl (code35 _ _) rfl rfl (fun H => by simp -implicitDefEqProofs only [↓v_lenS, SB, POp.val, AOp.val, WOp.val, Lite.bin, intBin, strBin, eqv, eqMany, eq1, AV.asBool, AV.asInt, AV.asNat, AV.asPtr, AV.asStr, resVals, ResV.val, oneOr, wants, skipped, fillAt, putAt, capOf, optNat, bnd, Nat.reduceBEq, reduceIte, Nat.reduceAdd, Nat.reduceLeDiff, Nat.reduceEqDiff, Nat.reduceSub, Nat.reduceMul, Nat.reduceDiv, SOper.again, same, sameBlk, sameCap, Nat.reduceBneDiff, s_draw2, s_pair, k_pair, asunder, SOper.into, Bool.not_false, Bool.not_true, DS]) ?_
  refine ((Ev.all l fun d hd => Ev.all l' fun d' _ => ih d hd d').and (Ev.ge (l.length + 1))).mono fun n hn H => ?_
  obtain ⟨ihn, hge⟩ := hn
  have hb := len_bne (a := l.length) (b := l'.length)
  by_cases hll : l.length = l'.length
  · have h1 : (l.length == l'.length) = true := by simpa using hll
    rw [h1] at hb
    simp -implicitDefEqProofs only [c35, ↓v_lenS, SB, POp.val, AOp.val, WOp.val, Lite.bin, intBin, strBin, eqv, eqMany, eq1, AV.asBool, AV.asInt, AV.asNat, AV.asPtr, AV.asStr, resVals, ResV.val, oneOr, wants, skipped, fillAt, putAt, capOf, optNat, bnd, Nat.reduceBEq, reduceIte, Nat.reduceAdd, Nat.reduceLeDiff, Nat.reduceEqDiff, Nat.reduceSub, Nat.reduceMul, Nat.reduceDiv, SOper.again, same, sameBlk, sameCap, Nat.reduceBneDiff, s_draw2, s_pair, k_pair, asunder, SOper.into, Bool.not_false, Bool.not_true, CL, DS, hb]
    refine loop_rounds l.length (fun i fr H => (∀ j, j < i → ∀ a b, l[j]? = some a → l'[j]? = some b → D.same a b = true) ∧ fr 1 = vData l' ∧ fr 2 = .func 21 [] ∧ fr 15 = vData l ∧ fr 16 = .int .i64 l.length ∧ fr 17 = .int .i64 i) ?_ ?_ n 0 _ _ (by omega) (by omega) ?_
    · rintro i fr H K' hi ⟨hall, h1, h2, h15, h16, h17⟩ hKe hKr hK
      obtain ⟨x, y, hx, hy⟩ := get2 hll hi
      have e1 := ihn x (List.mem_of_getElem? hx) y (List.mem_of_getElem? hy)
      have hlt : (i : Int) < (l.length : Int) := by omega
      have hw := wrap_succ hi (by omega)
      cases hp : D.same x y with
      | true =>
        have hnext := next_all hall hx hy hp
        rw [hp] at e1
        obtain ⟨kx, tx, mx, lx, ax⟩ := x
        obtain ⟨ky, ty, my, ly, ay⟩ := y
        simp only [D.v_mk] at e1
        have ne : ¬ H.n = H.n + 1 := by omega
        simp -implicitDefEqProofs only [c35_l0, ↓v_lenS, SB, POp.val, AOp.val, WOp.val, Lite.bin, intBin, strBin, eqv, eqMany, eq1, AV.asBool, AV.asInt, AV.asNat, AV.asPtr, AV.asStr, resVals, ResV.val, oneOr, wants, skipped, fillAt, putAt, capOf, optNat, bnd, Nat.reduceBEq, reduceIte, Nat.reduceAdd, Nat.reduceLeDiff, Nat.reduceEqDiff, Nat.reduceSub, Nat.reduceMul, Nat.reduceDiv, SOper.again, same, sameBlk, sameCap, Nat.reduceBneDiff, s_draw2, s_pair, k_pair, asunder, SOper.into, Bool.not_false, Bool.not_true, CL, DS, h1, h2, h15, h16, h17, hlt, iaddr_vData hx, iaddr_vData hy, e1, hw, ne]
        refine hK _ _ ⟨hnext, ?_⟩
        simp -implicitDefEqProofs only [↓v_lenS, SB, POp.val, AOp.val, WOp.val, Lite.bin, intBin, strBin, eqv, eqMany, eq1, AV.asBool, AV.asInt, AV.asNat, AV.asPtr, AV.asStr, resVals, ResV.val, oneOr, wants, skipped, fillAt, putAt, capOf, optNat, bnd, Nat.reduceBEq, reduceIte, Nat.reduceAdd, Nat.reduceLeDiff, Nat.reduceEqDiff, Nat.reduceSub, Nat.reduceMul, Nat.reduceDiv, SOper.again, same, sameBlk, sameCap, Nat.reduceBneDiff, s_draw2, s_pair, k_pair, asunder, SOper.into, Bool.not_false, Bool.not_true, h1, h2, h15, h16, h17]
      | false =>
        have hno := all_not hll hx hy hp
        rw [hp] at e1
        obtain ⟨kx, tx, mx, lx, ax⟩ := x
        obtain ⟨ky, ty, my, ly, ay⟩ := y
        simp only [D.v_mk] at e1
        have ne : ¬ H.n = H.n + 1 := by omega
        simp -implicitDefEqProofs only [c35_l0, ↓v_lenS, SB, POp.val, AOp.val, WOp.val, Lite.bin, intBin, strBin, eqv, eqMany, eq1, AV.asBool, AV.asInt, AV.asNat, AV.asPtr, AV.asStr, resVals, ResV.val, oneOr, wants, skipped, fillAt, putAt, capOf, optNat, bnd, Nat.reduceBEq, reduceIte, Nat.reduceAdd, Nat.reduceLeDiff, Nat.reduceEqDiff, Nat.reduceSub, Nat.reduceMul, Nat.reduceDiv, SOper.again, same, sameBlk, sameCap, Nat.reduceBneDiff, s_draw2, s_pair, k_pair, asunder, SOper.into, Bool.not_false, Bool.not_true, CL, DS, h1, h2, h15, h16, h17, hlt, iaddr_vData hx, iaddr_vData hy, e1, hw, ne, hKr, gives_ret, hno]
        exact ⟨_, rfl⟩
    · rintro fr H K' ⟨hall, h1, h2, h15, h16, h17⟩ hKe hKr
      have hyes := all_end hll hall
      simp -implicitDefEqProofs only [c35_l0, ↓v_lenS, SB, POp.val, AOp.val, WOp.val, Lite.bin, intBin, strBin, eqv, eqMany, eq1, AV.asBool, AV.asInt, AV.asNat, AV.asPtr, AV.asStr, resVals, ResV.val, oneOr, wants, skipped, fillAt, putAt, capOf, optNat, bnd, Nat.reduceBEq, reduceIte, Nat.reduceAdd, Nat.reduceLeDiff, Nat.reduceEqDiff, Nat.reduceSub, Nat.reduceMul, Nat.reduceDiv, SOper.again, same, sameBlk, sameCap, Nat.reduceBneDiff, s_draw2, s_pair, k_pair, asunder, SOper.into, Bool.not_false, Bool.not_true, h15, h16, h17, Int.lt_irrefl, hKe, gives_ret, hyes]
      exact ⟨_, rfl⟩
    · simp -implicitDefEqProofs only [↓v_lenS, SB, POp.val, AOp.val, WOp.val, Lite.bin, intBin, strBin, eqv, eqMany, eq1, AV.asBool, AV.asInt, AV.asNat, AV.asPtr, AV.asStr, resVals, ResV.val, oneOr, wants, skipped, fillAt, putAt, capOf, optNat, bnd, Nat.reduceBEq, reduceIte, Nat.reduceAdd, Nat.reduceLeDiff, Nat.reduceEqDiff, Nat.reduceSub, Nat.reduceMul, Nat.reduceDiv, SOper.again, same, sameBlk, sameCap, Nat.reduceBneDiff, s_draw2, s_pair, k_pair, asunder, SOper.into, Bool.not_false, Bool.not_true]
      exact ⟨fun j hj => by omega, rfl⟩
  · have h1 : (l.length == l'.length) = false := by simpa using hll
    rw [h1] at hb
    simp -implicitDefEqProofs only [c35, ↓v_lenS, SB, POp.val, AOp.val, WOp.val, Lite.bin, intBin, strBin, eqv, eqMany, eq1, AV.asBool, AV.asInt, AV.asNat, AV.asPtr, AV.asStr, resVals, ResV.val, oneOr, wants, skipped, fillAt, putAt, capOf, optNat, bnd, Nat.reduceBEq, reduceIte, Nat.reduceAdd, Nat.reduceLeDiff, Nat.reduceEqDiff, Nat.reduceSub, Nat.reduceMul, Nat.reduceDiv, SOper.again, same, sameBlk, sameCap, Nat.reduceBneDiff, s_draw2, s_pair, k_pair, asunder, SOper.into, Bool.not_false, Bool.not_true, CL, DS, hb, Ends, gives_ret, zipAll_len l l' hll]
    exact ⟨_, rfl⟩

mutual
/-- lists of no greater length than any machine holds -/
def D.fit : D → Prop
  | .mk _ t ms l _ => ms.length ≤ 1099511627776 ∧ l.length ≤ 1099511627776 ∧ D.fits l
def D.fits : List D → Prop
  | [] => True
  | d :: ds => d.fit ∧ D.fits ds
end

theorem D.fits_iff (l : List D) : D.fits l ↔ ∀ d ∈ l, d.fit := by
  induction l with
  | nil => simp [D.fits]
  | cons d l ih => simp [D.fits, ih]

theorem same21 : ∀ a : D, a.fit → ∀ b : D, Ret P2 21 [a.v, b.v] (.bool (a.same b)) := D.indA fun k t ms l a ih hfit b => by
  obtain ⟨k', t', ms', l', a'⟩ := b
  rw [D.fit, D.fits_iff] at hfit
  obtain ⟨f1, f2, f3⟩ := hfit
  rw [D.same]
  refine Ret.of rfl (code21 _ _) rfl rfl (fun H => by simp -implicitDefEqProofs only [↓v_lenS, SB, POp.val, AOp.val, WOp.val, Lite.bin, intBin, strBin, eqv, eqMany, eq1, AV.asBool, AV.asInt, AV.asNat, AV.asPtr, AV.asStr, resVals, ResV.val, oneOr, wants, skipped, fillAt, putAt, capOf, optNat, bnd, Nat.reduceBEq, reduceIte, Nat.reduceAdd, Nat.reduceLeDiff, Nat.reduceEqDiff, Nat.reduceSub, Nat.reduceMul, Nat.reduceDiv, SOper.again, same, sameBlk, sameCap, Nat.reduceBneDiff, s_draw2, s_pair, k_pair, asunder, SOper.into, Bool.not_false, Bool.not_true, DS]) ?_
  refine ((equal34 ms ms' (by omega)).and (equalfunc35 l l' (by omega) fun d hd d' => ih d hd (f3 d hd) d')).mono fun n hn H => ?_
  obtain ⟨e1, e2⟩ := hn
  cases h1 : (k == k') <;> cases h2 : (t == t') <;> cases h3 : zipAll (· == ·) ms ms' <;> cases h4 : D.sames l l'
  all_goals rw [h3] at e1
  all_goals rw [h4] at e2
  all_goals simp -implicitDefEqProofs only [c21, ↓v_lenS, SB, POp.val, AOp.val, WOp.val, Lite.bin, intBin, strBin, eqv, eqMany, eq1, AV.asBool, AV.asInt, AV.asNat, AV.asPtr, AV.asStr, resVals, ResV.val, oneOr, wants, skipped, fillAt, putAt, capOf, optNat, bnd, Nat.reduceBEq, reduceIte, Nat.reduceAdd, Nat.reduceLeDiff, Nat.reduceEqDiff, Nat.reduceSub, Nat.reduceMul, Nat.reduceDiv, SOper.again, same, sameBlk, sameCap, Nat.reduceBneDiff, s_draw2, s_pair, k_pair, asunder, SOper.into, Bool.not_false, Bool.not_true, CL, DS, h1, h2, e1, e2, Ends, gives_ret]
  all_goals exact ⟨_, rfl⟩

theorem same25 : ∀ a : D, a.fit → ∀ b : D, Ret P2 25 [a.v, b.v] (.bool (a.same b)) := D.indA fun k t ms l a ih hfit b => by
  obtain ⟨k', t', ms', l', a'⟩ := b
  rw [D.fit, D.fits_iff] at hfit
  obtain ⟨f1, f2, f3⟩ := hfit
  rw [D.same, D.sames_eq]
  refine Ret.of rfl (code25 _ _) rfl rfl (fun H => by simp -implicitDefEqProofs only [↓v_lenS, SB, POp.val, AOp.val, WOp.val, Lite.bin, intBin, strBin, eqv, eqMany, eq1, AV.asBool, AV.asInt, AV.asNat, AV.asPtr, AV.asStr, resVals, ResV.val, oneOr, wants, skipped, fillAt, putAt, capOf, optNat, bnd, Nat.reduceBEq, reduceIte, Nat.reduceAdd, Nat.reduceLeDiff, Nat.reduceEqDiff, Nat.reduceSub, Nat.reduceMul, Nat.reduceDiv, SOper.again, same, sameBlk, sameCap, Nat.reduceBneDiff, s_draw2, s_pair, k_pair, asunder, SOper.into, Bool.not_false, Bool.not_true, DS]) ?_
  refine ((equal36 ms ms' (by omega)).and ((Ev.all l fun d hd => Ev.all l' fun d' _ => ih d hd (f3 d hd) d').and (Ev.ge (l.length + 1)))).mono fun n hn H => ?_
  obtain ⟨e0, ihn, hge⟩ := hn
  have hb := len_bne (a := l.length) (b := l'.length)
  by_cases hc : (k == k') = true ∧ (t == t') = true ∧ zipAll (· == ·) ms ms' = true ∧ l.length = l'.length
  · obtain ⟨c1, c2, c3, c4⟩ := hc
    have h1 : (l.length == l'.length) = true := by simpa using c4
    rw [h1] at hb
    have b1 : (k != k') = false := by simp [bne, c1]
    have b2 : (t != t') = false := by simp [bne, c2]
    rw [c3] at e0
    simp -implicitDefEqProofs only [c25, ↓v_lenS, SB, POp.val, AOp.val, WOp.val, Lite.bin, intBin, strBin, eqv, eqMany, eq1, AV.asBool, AV.asInt, AV.asNat, AV.asPtr, AV.asStr, resVals, ResV.val, oneOr, wants, skipped, fillAt, putAt, capOf, optNat, bnd, Nat.reduceBEq, reduceIte, Nat.reduceAdd, Nat.reduceLeDiff, Nat.reduceEqDiff, Nat.reduceSub, Nat.reduceMul, Nat.reduceDiv, SOper.again, same, sameBlk, sameCap, Nat.reduceBneDiff, s_draw2, s_pair, k_pair, asunder, SOper.into, Bool.not_false, Bool.not_true, CL, DS, b1, b2, c1, c2, c3, hb, e0]
    refine loop_rounds l.length (fun i fr H => (∀ j, j < i → ∀ a b, l[j]? = some a → l'[j]? = some b → D.same a b = true) ∧ fr 2 = .ptr (.new 0) 0 ∧ fr 3 = .ptr (.new 1) 0 ∧ fr 5 = .int .i64 i ∧
        H.t.get 0 = some (.row [.int .i64 k, .str t, vInts ms, vData l, .int .i64 a] 0 false (some 30)) ∧ H.t.get 1 = some (.row [.int .i64 k', .str t', vInts ms', vData l', .int .i64 a'] 0 false (some 30))) ?_ ?_ n 0 _ _ (by omega) (by omega) ?_
    · rintro i fr H K' hi ⟨hall, h2, h3, h5, g0, g1⟩ hKe hKr hK
      obtain ⟨x, y, hx, hy⟩ := get2 c4 hi
      have e1 := ihn x (List.mem_of_getElem? hx) y (List.mem_of_getElem? hy)
      have hlt : (i : Int) < (l.length : Int) := by omega
      have hw := wrap_succ hi (by omega)
      cases hp : D.same x y with
      | true =>
        have hnext := next_all hall hx hy hp
        rw [hp] at e1
        obtain ⟨kx, tx, mx, lx, ax⟩ := x
        obtain ⟨ky, ty, my, ly, ay⟩ := y
        simp only [D.v_mk] at e1
        simp -implicitDefEqProofs only [c25_l0, ↓v_lenS, SB, POp.val, AOp.val, WOp.val, Lite.bin, intBin, strBin, eqv, eqMany, eq1, AV.asBool, AV.asInt, AV.asNat, AV.asPtr, AV.asStr, resVals, ResV.val, oneOr, wants, skipped, fillAt, putAt, capOf, optNat, bnd, Nat.reduceBEq, reduceIte, Nat.reduceAdd, Nat.reduceLeDiff, Nat.reduceEqDiff, Nat.reduceSub, Nat.reduceMul, Nat.reduceDiv, SOper.again, same, sameBlk, sameCap, Nat.reduceBneDiff, s_draw2, s_pair, k_pair, asunder, SOper.into, Bool.not_false, Bool.not_true, CL, DS, h2, h3, h5, g0, g1, hlt, iaddr_vData hx, iaddr_vData hy, e1, hw]
        refine hK _ _ ⟨hnext, ?_⟩
        simp -implicitDefEqProofs only [↓v_lenS, SB, POp.val, AOp.val, WOp.val, Lite.bin, intBin, strBin, eqv, eqMany, eq1, AV.asBool, AV.asInt, AV.asNat, AV.asPtr, AV.asStr, resVals, ResV.val, oneOr, wants, skipped, fillAt, putAt, capOf, optNat, bnd, Nat.reduceBEq, reduceIte, Nat.reduceAdd, Nat.reduceLeDiff, Nat.reduceEqDiff, Nat.reduceSub, Nat.reduceMul, Nat.reduceDiv, SOper.again, same, sameBlk, sameCap, Nat.reduceBneDiff, s_draw2, s_pair, k_pair, asunder, SOper.into, Bool.not_false, Bool.not_true, h2, h3, h5, g0, g1]
      | false =>
        have hno := all_not c4 hx hy hp
        rw [hp] at e1
        obtain ⟨kx, tx, mx, lx, ax⟩ := x
        obtain ⟨ky, ty, my, ly, ay⟩ := y
        simp only [D.v_mk] at e1
        simp -implicitDefEqProofs only [c25_l0, ↓v_lenS, SB, POp.val, AOp.val, WOp.val, Lite.bin, intBin, strBin, eqv, eqMany, eq1, AV.asBool, AV.asInt, AV.asNat, AV.asPtr, AV.asStr, resVals, ResV.val, oneOr, wants, skipped, fillAt, putAt, capOf, optNat, bnd, Nat.reduceBEq, reduceIte, Nat.reduceAdd, Nat.reduceLeDiff, Nat.reduceEqDiff, Nat.reduceSub, Nat.reduceMul, Nat.reduceDiv, SOper.again, same, sameBlk, sameCap, Nat.reduceBneDiff, s_draw2, s_pair, k_pair, asunder, SOper.into, Bool.not_false, Bool.not_true, CL, DS, h2, h3, h5, g0, g1, hlt, iaddr_vData hx, iaddr_vData hy, e1, hw, hKr, gives_ret, hno]
        exact ⟨_, rfl⟩
    · rintro fr H K' ⟨hall, h2, h3, h5, g0, g1⟩ hKe hKr
      have hyes := all_end c4 hall
      simp -implicitDefEqProofs only [c25_l0, ↓v_lenS, SB, POp.val, AOp.val, WOp.val, Lite.bin, intBin, strBin, eqv, eqMany, eq1, AV.asBool, AV.asInt, AV.asNat, AV.asPtr, AV.asStr, resVals, ResV.val, oneOr, wants, skipped, fillAt, putAt, capOf, optNat, bnd, Nat.reduceBEq, reduceIte, Nat.reduceAdd, Nat.reduceLeDiff, Nat.reduceEqDiff, Nat.reduceSub, Nat.reduceMul, Nat.reduceDiv, SOper.again, same, sameBlk, sameCap, Nat.reduceBneDiff, s_draw2, s_pair, k_pair, asunder, SOper.into, Bool.not_false, Bool.not_true, DS, h2, h3, h5, g0, g1, Int.lt_irrefl, hKe, gives_ret, hyes]
      exact ⟨_, rfl⟩
    · simp -implicitDefEqProofs only [↓v_lenS, SB, POp.val, AOp.val, WOp.val, Lite.bin, intBin, strBin, eqv, eqMany, eq1, AV.asBool, AV.asInt, AV.asNat, AV.asPtr, AV.asStr, resVals, ResV.val, oneOr, wants, skipped, fillAt, putAt, capOf, optNat, bnd, Nat.reduceBEq, reduceIte, Nat.reduceAdd, Nat.reduceLeDiff, Nat.reduceEqDiff, Nat.reduceSub, Nat.reduceMul, Nat.reduceDiv, SOper.again, same, sameBlk, sameCap, Nat.reduceBneDiff, s_draw2, s_pair, k_pair, asunder, SOper.into, Bool.not_false, Bool.not_true]
      exact ⟨fun j hj => by omega, rfl⟩
  · have b1 : (k != k') = !(k == k') := rfl
    have b2 : (t != t') = !(t == t') := rfl
    have hz : (l.length == l'.length) = false → zipAll D.same l l' = false := fun h4 => zipAll_len l l' (by simpa using h4)
    have hc' : ¬ ((k == k') = true ∧ (t == t') = true ∧ zipAll (· == ·) ms ms' = true ∧ (l.length == l'.length) = true) := fun h => hc ⟨h.1, h.2.1, h.2.2.1, by simpa using h.2.2.2⟩
    clear hc
    generalize zipAll (· == ·) ms ms' = z3 at *
    generalize zipAll D.same l l' = z4 at *
    cases h1 : (k == k')
    · simp -implicitDefEqProofs only [c25, ↓v_lenS, SB, POp.val, AOp.val, WOp.val, Lite.bin, intBin, strBin, eqv, eqMany, eq1, AV.asBool, AV.asInt, AV.asNat, AV.asPtr, AV.asStr, resVals, ResV.val, oneOr, wants, skipped, fillAt, putAt, capOf, optNat, bnd, Nat.reduceBEq, reduceIte, Nat.reduceAdd, Nat.reduceLeDiff, Nat.reduceEqDiff, Nat.reduceSub, Nat.reduceMul, Nat.reduceDiv, SOper.again, same, sameBlk, sameCap, Nat.reduceBneDiff, s_draw2, s_pair, k_pair, asunder, SOper.into, Bool.not_false, Bool.not_true, CL, DS, h1, b1, b2, hb, e0, Ends, gives_ret]
      exact ⟨_, rfl⟩
    · cases h2 : (t == t')
      · simp -implicitDefEqProofs only [c25, ↓v_lenS, SB, POp.val, AOp.val, WOp.val, Lite.bin, intBin, strBin, eqv, eqMany, eq1, AV.asBool, AV.asInt, AV.asNat, AV.asPtr, AV.asStr, resVals, ResV.val, oneOr, wants, skipped, fillAt, putAt, capOf, optNat, bnd, Nat.reduceBEq, reduceIte, Nat.reduceAdd, Nat.reduceLeDiff, Nat.reduceEqDiff, Nat.reduceSub, Nat.reduceMul, Nat.reduceDiv, SOper.again, same, sameBlk, sameCap, Nat.reduceBneDiff, s_draw2, s_pair, k_pair, asunder, SOper.into, Bool.not_false, Bool.not_true, CL, DS, h1, h2, b1, b2, hb, e0, Ends, gives_ret]
        exact ⟨_, rfl⟩
      · cases z3
        · simp -implicitDefEqProofs only [c25, ↓v_lenS, SB, POp.val, AOp.val, WOp.val, Lite.bin, intBin, strBin, eqv, eqMany, eq1, AV.asBool, AV.asInt, AV.asNat, AV.asPtr, AV.asStr, resVals, ResV.val, oneOr, wants, skipped, fillAt, putAt, capOf, optNat, bnd, Nat.reduceBEq, reduceIte, Nat.reduceAdd, Nat.reduceLeDiff, Nat.reduceEqDiff, Nat.reduceSub, Nat.reduceMul, Nat.reduceDiv, SOper.again, same, sameBlk, sameCap, Nat.reduceBneDiff, s_draw2, s_pair, k_pair, asunder, SOper.into, Bool.not_false, Bool.not_true, CL, DS, h1, h2, b1, b2, hb, e0, Ends, gives_ret]
          exact ⟨_, rfl⟩
        · have h4 : (l.length == l'.length) = false := by
            cases h4 : (l.length == l'.length) with
            | false => rfl
            | true => exact absurd ⟨h1, h2, rfl, h4⟩ hc'
          rw [h4] at hb
          simp -implicitDefEqProofs only [c25, ↓v_lenS, SB, POp.val, AOp.val, WOp.val, Lite.bin, intBin, strBin, eqv, eqMany, eq1, AV.asBool, AV.asInt, AV.asNat, AV.asPtr, AV.asStr, resVals, ResV.val, oneOr, wants, skipped, fillAt, putAt, capOf, optNat, bnd, Nat.reduceBEq, reduceIte, Nat.reduceAdd, Nat.reduceLeDiff, Nat.reduceEqDiff, Nat.reduceSub, Nat.reduceMul, Nat.reduceDiv, SOper.again, same, sameBlk, sameCap, Nat.reduceBneDiff, s_draw2, s_pair, k_pair, asunder, SOper.into, Bool.not_false, Bool.not_true, CL, DS, h1, h2, b1, b2, hb, e0, Ends, gives_ret, hz h4]
          exact ⟨_, rfl⟩

theorem is22 (d : D) (s : List Nat) : Ret P2 22 [d.v, .str s] (.bool (match d with | .mk k t _ _ _ => k == 3 && t == s)) := by
  obtain ⟨k, t, ms, l, a⟩ := d
  refine Ret.of rfl (code22 _ _) rfl rfl (fun H => by simp -implicitDefEqProofs only [↓v_lenS, SB, POp.val, AOp.val, WOp.val, Lite.bin, intBin, strBin, eqv, eqMany, eq1, AV.asBool, AV.asInt, AV.asNat, AV.asPtr, AV.asStr, resVals, ResV.val, oneOr, wants, skipped, fillAt, putAt, capOf, optNat, bnd, Nat.reduceBEq, reduceIte, Nat.reduceAdd, Nat.reduceLeDiff, Nat.reduceEqDiff, Nat.reduceSub, Nat.reduceMul, Nat.reduceDiv, SOper.again, same, sameBlk, sameCap, Nat.reduceBneDiff, s_draw2, s_pair, k_pair, asunder, SOper.into, Bool.not_false, Bool.not_true, DS]) (Ev.of fun n H => ?_)
  cases h : (k == 3) <;> simp -implicitDefEqProofs only [c22, ↓v_lenS, SB, POp.val, AOp.val, WOp.val, Lite.bin, intBin, strBin, eqv, eqMany, eq1, AV.asBool, AV.asInt, AV.asNat, AV.asPtr, AV.asStr, resVals, ResV.val, oneOr, wants, skipped, fillAt, putAt, capOf, optNat, bnd, Nat.reduceBEq, reduceIte, Nat.reduceAdd, Nat.reduceLeDiff, Nat.reduceEqDiff, Nat.reduceSub, Nat.reduceMul, Nat.reduceDiv, SOper.again, same, sameBlk, sameCap, Nat.reduceBneDiff, s_draw2, s_pair, k_pair, asunder, SOper.into, Bool.not_false, Bool.not_true, DS, h, gives_ret, Ends]
  all_goals exact ⟨_, rfl⟩

theorem is27 (d : D) (s : List Nat) : Ret P2 27 [d.v, .str s] (.bool (match d with | .mk k t _ _ _ => k == 3 && t == s)) := by
  obtain ⟨k, t, ms, l, a⟩ := d
  refine Ret.of rfl (code27 _ _) rfl rfl (fun H => by simp -implicitDefEqProofs only [↓v_lenS, SB, POp.val, AOp.val, WOp.val, Lite.bin, intBin, strBin, eqv, eqMany, eq1, AV.asBool, AV.asInt, AV.asNat, AV.asPtr, AV.asStr, resVals, ResV.val, oneOr, wants, skipped, fillAt, putAt, capOf, optNat, bnd, Nat.reduceBEq, reduceIte, Nat.reduceAdd, Nat.reduceLeDiff, Nat.reduceEqDiff, Nat.reduceSub, Nat.reduceMul, Nat.reduceDiv, SOper.again, same, sameBlk, sameCap, Nat.reduceBneDiff, s_draw2, s_pair, k_pair, asunder, SOper.into, Bool.not_false, Bool.not_true, DS]) (Ev.of fun n H => ?_)
  cases h : (k == 3) <;> simp -implicitDefEqProofs only [c27, ↓v_lenS, SB, POp.val, AOp.val, WOp.val, Lite.bin, intBin, strBin, eqv, eqMany, eq1, AV.asBool, AV.asInt, AV.asNat, AV.asPtr, AV.asStr, resVals, ResV.val, oneOr, wants, skipped, fillAt, putAt, capOf, optNat, bnd, Nat.reduceBEq, reduceIte, Nat.reduceAdd, Nat.reduceLeDiff, Nat.reduceEqDiff, Nat.reduceSub, Nat.reduceMul, Nat.reduceDiv, SOper.again, same, sameBlk, sameCap, Nat.reduceBneDiff, s_draw2, s_pair, k_pair, asunder, SOper.into, Bool.not_false, Bool.not_true, DS, h, gives_ret, Ends]
  all_goals exact ⟨_, rfl⟩

end Go.Lite
