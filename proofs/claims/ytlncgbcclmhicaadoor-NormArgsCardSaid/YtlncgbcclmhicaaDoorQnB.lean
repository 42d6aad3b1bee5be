/-
  Several texts in one: NArity, NIn, NOnce, NGood, NPart, NMakeB, NMakeC, NMakeD, NMakeE, NMakeF, NTerm, NRows, NLaid.
-/
import Derived.Test.YtlncgbcclmhicaaDoorQnA
import Derived.Test.YtlncgbcclmhicaaDoorQbA
import Derived.LaidLaws
import Derived.Handed
import Derived.Test.YtlncgbcclmhicaaDoorRows

/-
  How many a primitive takes.
-/
namespace Go.Lite
open Go Go.Proofs
set_option maxRecDepth 100000
set_option linter.unusedSimpArgs false
set_option linter.unusedVariables false

def primT : List Str := [[43], [45], [42], [113, 117, 111, 116, 105, 101, 110, 116], [114, 101, 109, 97, 105, 110, 100, 101, 114], [60], [61], [101, 113, 63], [99, 111, 110, 115], [115, 101, 113], [99, 97, 114], [99, 100, 114], [110, 117, 108, 108, 63], [112, 97, 105, 114, 63], [110, 111, 116], [105, 110, 116, 101, 103, 101, 114, 63], [115, 121, 109, 98, 111, 108, 63], [101, 114, 114, 111, 114]]

/-- from the i-th primitive on -/
def arityFrom (s : Str) : List Str → Nat → Int
  | [], _ => 0
  | p :: l, i => if (p == s) = true then (if i < 10 then 2 else 1) else arityFrom s l (i + 1)
def arityX (s : Str) : Int := arityFrom s primT 0

theorem arity47 (s : Str) : Ret P3 47 [.str s] (.int .i64 (arityX s)) := by
  refine Ret.of rfl (code47 _ _) rfl rfl (fun H => by simp -implicitDefEqProofs only [↓v_lenS, SB, POp.val, AOp.val, WOp.val, Lite.bin, intBin, strBin, eqv, eqMany, eq1, AV.asBool, AV.asInt, AV.asNat, AV.asPtr, AV.asStr, resVals, ResV.val, oneOr, wants, skipped, fillAt, putAt, capOf, optNat, bnd, Nat.reduceBEq, reduceIte, Nat.reduceAdd, Nat.reduceLeDiff, Nat.reduceEqDiff, Nat.reduceSub, Nat.reduceMul, Nat.reduceDiv, SOper.again, same, sameBlk, sameCap, Nat.reduceBneDiff, s_draw2, s_pair, k_pair, asunder, SOper.into, Bool.not_false, Bool.not_true]) ((Ev.ge 20).mono fun n hge H => ?_)
  have hget : ∀ j p, primT[j]? = some p → (primT.map fun s : Str => AV.str s)[j]? = some (AV.str p) := fun j p h => by rw [List.getElem?_map, h]; rfl
  simp -implicitDefEqProofs only [c47, ↓v_lenS, SB, POp.val, AOp.val, WOp.val, Lite.bin, intBin, strBin, eqv, eqMany, eq1, AV.asBool, AV.asInt, AV.asNat, AV.asPtr, AV.asStr, resVals, ResV.val, oneOr, wants, skipped, fillAt, putAt, capOf, optNat, bnd, Nat.reduceBEq, reduceIte, Nat.reduceAdd, Nat.reduceLeDiff, Nat.reduceEqDiff, Nat.reduceSub, Nat.reduceMul, Nat.reduceDiv, SOper.again, same, sameBlk, sameCap, Nat.reduceBneDiff, s_draw2, s_pair, k_pair, asunder, SOper.into, Bool.not_false, Bool.not_true, CL]
  refine loop_rounds primT.length (fun i fr H => arityFrom s (primT.drop i) i = arityX s ∧ fr 0 = .str s ∧ fr 3 = .lst 1 18 true (primT.map fun s : Str => AV.str s) ∧ fr 4 = .int .i64 i) ?_ ?_ n 0 _ _ (by omega) (by show 18 < n + 0; omega) ?_
  · rintro i fr H K' hi ⟨ha, h0, h3, h4⟩ hKe hKr hK
    obtain ⟨p, hp⟩ : ∃ p, primT[i]? = some p := ⟨primT[i], List.getElem?_eq_getElem hi⟩
    have hg := hget i p hp
    have hi18 : i < 18 := hi
    have hlt : (i : Int) < ((18 : Nat) : Int) := by omega
    have hw := wrap_succ hi18 (by omega)
    have hdr : primT.drop i = p :: primT.drop (i + 1) := by
      rw [← List.getElem_cons_drop (h := hi), (List.getElem?_eq_some_iff.1 hp).2]
    rw [hdr, arityFrom] at ha
    cases hps : (p == s) with
    | true =>
      rw [hps, if_pos rfl] at ha
      by_cases h10 : i < 10
      · have h10' : (i : Int) < 10 := by omega
        rw [if_pos h10] at ha
        simp -implicitDefEqProofs only [c47_l0, ↓v_lenS, SB, POp.val, AOp.val, WOp.val, Lite.bin, intBin, strBin, eqv, eqMany, eq1, AV.asBool, AV.asInt, AV.asNat, AV.asPtr, AV.asStr, resVals, ResV.val, oneOr, wants, skipped, fillAt, putAt, capOf, optNat, bnd, Nat.reduceBEq, reduceIte, Nat.reduceAdd, Nat.reduceLeDiff, Nat.reduceEqDiff, Nat.reduceSub, Nat.reduceMul, Nat.reduceDiv, SOper.again, same, sameBlk, sameCap, Nat.reduceBneDiff, s_draw2, s_pair, k_pair, asunder, SOper.into, Bool.not_false, Bool.not_true, CL, h0, h3, h4, hlt, hi18, hg, hps, h10', hKr, Nat.mul_one, gives_ret, Ends, ← ha]
        exact ⟨_, rfl⟩
      · have h10' : ¬ (i : Int) < 10 := by omega
        rw [if_neg h10] at ha
        simp -implicitDefEqProofs only [c47_l0, ↓v_lenS, SB, POp.val, AOp.val, WOp.val, Lite.bin, intBin, strBin, eqv, eqMany, eq1, AV.asBool, AV.asInt, AV.asNat, AV.asPtr, AV.asStr, resVals, ResV.val, oneOr, wants, skipped, fillAt, putAt, capOf, optNat, bnd, Nat.reduceBEq, reduceIte, Nat.reduceAdd, Nat.reduceLeDiff, Nat.reduceEqDiff, Nat.reduceSub, Nat.reduceMul, Nat.reduceDiv, SOper.again, same, sameBlk, sameCap, Nat.reduceBneDiff, s_draw2, s_pair, k_pair, asunder, SOper.into, Bool.not_false, Bool.not_true, CL, h0, h3, h4, hlt, hi18, hg, hps, h10', hKr, Nat.mul_one, gives_ret, Ends, ← ha]
        exact ⟨_, rfl⟩
    | false =>
      rw [hps, if_neg (by decide)] at ha
      simp -implicitDefEqProofs only [c47_l0, ↓v_lenS, SB, POp.val, AOp.val, WOp.val, Lite.bin, intBin, strBin, eqv, eqMany, eq1, AV.asBool, AV.asInt, AV.asNat, AV.asPtr, AV.asStr, resVals, ResV.val, oneOr, wants, skipped, fillAt, putAt, capOf, optNat, bnd, Nat.reduceBEq, reduceIte, Nat.reduceAdd, Nat.reduceLeDiff, Nat.reduceEqDiff, Nat.reduceSub, Nat.reduceMul, Nat.reduceDiv, SOper.again, same, sameBlk, sameCap, Nat.reduceBneDiff, s_draw2, s_pair, k_pair, asunder, SOper.into, Bool.not_false, Bool.not_true, CL, h0, h3, h4, hlt, hi18, hg, hps, hw, Nat.mul_one]
      refine hK _ _ ⟨ha, ?_⟩
      simp -implicitDefEqProofs only [↓v_lenS, SB, POp.val, AOp.val, WOp.val, Lite.bin, intBin, strBin, eqv, eqMany, eq1, AV.asBool, AV.asInt, AV.asNat, AV.asPtr, AV.asStr, resVals, ResV.val, oneOr, wants, skipped, fillAt, putAt, capOf, optNat, bnd, Nat.reduceBEq, reduceIte, Nat.reduceAdd, Nat.reduceLeDiff, Nat.reduceEqDiff, Nat.reduceSub, Nat.reduceMul, Nat.reduceDiv, SOper.again, same, sameBlk, sameCap, Nat.reduceBneDiff, s_draw2, s_pair, k_pair, asunder, SOper.into, Bool.not_false, Bool.not_true, h0, h3]
  · rintro fr H K' ⟨ha, h0, h3, h4⟩ hKe hKr
    have h4 : fr 4 = .int .i64 ((18 : Nat) : Int) := h4
    have ha : arityFrom s [] 18 = arityX s := ha
    rw [arityFrom] at ha
    simp -implicitDefEqProofs only [c47_l0, ↓v_lenS, SB, POp.val, AOp.val, WOp.val, Lite.bin, intBin, strBin, eqv, eqMany, eq1, AV.asBool, AV.asInt, AV.asNat, AV.asPtr, AV.asStr, resVals, ResV.val, oneOr, wants, skipped, fillAt, putAt, capOf, optNat, bnd, Nat.reduceBEq, reduceIte, Nat.reduceAdd, Nat.reduceLeDiff, Nat.reduceEqDiff, Nat.reduceSub, Nat.reduceMul, Nat.reduceDiv, SOper.again, same, sameBlk, sameCap, Nat.reduceBneDiff, s_draw2, s_pair, k_pair, asunder, SOper.into, Bool.not_false, Bool.not_true, CL, h0, h3, h4, Int.lt_irrefl, hKe, gives_ret, Ends, ← ha]
    exact ⟨_, rfl⟩
  · simp -implicitDefEqProofs only [↓v_lenS, SB, POp.val, AOp.val, WOp.val, Lite.bin, intBin, strBin, eqv, eqMany, eq1, AV.asBool, AV.asInt, AV.asNat, AV.asPtr, AV.asStr, resVals, ResV.val, oneOr, wants, skipped, fillAt, putAt, capOf, optNat, bnd, Nat.reduceBEq, reduceIte, Nat.reduceAdd, Nat.reduceLeDiff, Nat.reduceEqDiff, Nat.reduceSub, Nat.reduceMul, Nat.reduceDiv, SOper.again, same, sameBlk, sameCap, Nat.reduceBneDiff, s_draw2, s_pair, k_pair, asunder, SOper.into, Bool.not_false, Bool.not_true]
    exact ⟨rfl, rfl, rfl⟩

end Go.Lite

/-
  Is a name one of these?
-/
namespace Go.Lite
open Go Go.Proofs
set_option maxRecDepth 100000
set_option linter.unusedSimpArgs false
set_option linter.unusedVariables false

theorem iaddr_vStrsF {f : Bool} {l : List Str} {j : Nat} {d : Str} (h : l[j]? = some d) : iaddrV 1 (vList f 1 str1 l) j = some (.ptr (.val [.str d]) 0) := iaddr_at str1_len h

theorem in43 (f : Bool) (l : List Str) (s : Str) (hl : l.length ≤ 4611686018427387904) : Ret P3 43 [vList f 1 str1 l, .str s] (.bool (l.any (· == s))) := by
  refine Ret.of rfl (code43 _ _) rfl rfl (fun H => by simp -implicitDefEqProofs only [↓v_lenS, SB, POp.val, AOp.val, WOp.val, Lite.bin, intBin, strBin, eqv, eqMany, eq1, AV.asBool, AV.asInt, AV.asNat, AV.asPtr, AV.asStr, resVals, ResV.val, oneOr, wants, skipped, fillAt, putAt, capOf, optNat, bnd, Nat.reduceBEq, reduceIte, Nat.reduceAdd, Nat.reduceLeDiff, Nat.reduceEqDiff, Nat.reduceSub, Nat.reduceMul, Nat.reduceDiv, SOper.again, same, sameBlk, sameCap, Nat.reduceBneDiff, s_draw2, s_pair, k_pair, asunder, SOper.into, Bool.not_false, Bool.not_true, XS]) ?_
  refine (Ev.ge (l.length + 1)).mono fun n hge H => ?_
  simp -implicitDefEqProofs only [c43, ↓v_lenS, SB, POp.val, AOp.val, WOp.val, Lite.bin, intBin, strBin, eqv, eqMany, eq1, AV.asBool, AV.asInt, AV.asNat, AV.asPtr, AV.asStr, resVals, ResV.val, oneOr, wants, skipped, fillAt, putAt, capOf, optNat, bnd, Nat.reduceBEq, reduceIte, Nat.reduceAdd, Nat.reduceLeDiff, Nat.reduceEqDiff, Nat.reduceSub, Nat.reduceMul, Nat.reduceDiv, SOper.again, same, sameBlk, sameCap, Nat.reduceBneDiff, s_draw2, s_pair, k_pair, asunder, SOper.into, Bool.not_false, Bool.not_true, CL, XS]
  refine loop_rounds l.length (fun i fr H => (∀ j, j < i → ∀ x, l[j]? = some x → (x == s) = false) ∧ fr 0 = vList f 1 str1 l ∧ fr 1 = .str s ∧ fr 5 = .int .i64 i) ?_ ?_ n 0 _ _ (by omega) (by omega) ?_
  · rintro i fr H K' hi ⟨hall, h0, h1, h3⟩ hKe hKr hK
    obtain ⟨x, hx⟩ : ∃ x, l[i]? = some x := ⟨l[i], List.getElem?_eq_getElem hi⟩
    have hlt : (i : Int) < (l.length : Int) := by omega
    have hw := wrap_succ hi (by omega)
    cases hp : (x == s) with
    | true =>
      have hyes : l.any (· == s) = true := List.any_eq_true.2 ⟨x, List.mem_of_getElem? hx, hp⟩
      simp -implicitDefEqProofs only [c43_l0, ↓v_lenS, SB, POp.val, AOp.val, WOp.val, Lite.bin, intBin, strBin, eqv, eqMany, eq1, AV.asBool, AV.asInt, AV.asNat, AV.asPtr, AV.asStr, resVals, ResV.val, oneOr, wants, skipped, fillAt, putAt, capOf, optNat, bnd, Nat.reduceBEq, reduceIte, Nat.reduceAdd, Nat.reduceLeDiff, Nat.reduceEqDiff, Nat.reduceSub, Nat.reduceMul, Nat.reduceDiv, SOper.again, same, sameBlk, sameCap, Nat.reduceBneDiff, s_draw2, s_pair, k_pair, asunder, SOper.into, Bool.not_false, Bool.not_true, CL, XS, h0, h1, h3, hlt, iaddr_vStrsF hx, hp, hKr, gives_ret, hyes]
      exact ⟨_, rfl⟩
    | false =>
      simp -implicitDefEqProofs only [c43_l0, ↓v_lenS, SB, POp.val, AOp.val, WOp.val, Lite.bin, intBin, strBin, eqv, eqMany, eq1, AV.asBool, AV.asInt, AV.asNat, AV.asPtr, AV.asStr, resVals, ResV.val, oneOr, wants, skipped, fillAt, putAt, capOf, optNat, bnd, Nat.reduceBEq, reduceIte, Nat.reduceAdd, Nat.reduceLeDiff, Nat.reduceEqDiff, Nat.reduceSub, Nat.reduceMul, Nat.reduceDiv, SOper.again, same, sameBlk, sameCap, Nat.reduceBneDiff, s_draw2, s_pair, k_pair, asunder, SOper.into, Bool.not_false, Bool.not_true, CL, XS, h0, h1, h3, hlt, iaddr_vStrsF hx, hp, hw]
      refine hK _ _ ⟨fun j hj y hy => ?_, ?_⟩
      · rcases Nat.lt_or_ge j i with h | h
        · exact hall j h y hy
        · obtain rfl : j = i := by omega
          rw [hx] at hy; simp only [Option.some.injEq] at hy; subst hy; exact hp
      · simp -implicitDefEqProofs only [↓v_lenS, SB, POp.val, AOp.val, WOp.val, Lite.bin, intBin, strBin, eqv, eqMany, eq1, AV.asBool, AV.asInt, AV.asNat, AV.asPtr, AV.asStr, resVals, ResV.val, oneOr, wants, skipped, fillAt, putAt, capOf, optNat, bnd, Nat.reduceBEq, reduceIte, Nat.reduceAdd, Nat.reduceLeDiff, Nat.reduceEqDiff, Nat.reduceSub, Nat.reduceMul, Nat.reduceDiv, SOper.again, same, sameBlk, sameCap, Nat.reduceBneDiff, s_draw2, s_pair, k_pair, asunder, SOper.into, Bool.not_false, Bool.not_true, h0, h1]
  · rintro fr H K' ⟨hall, h0, h1, h3⟩ hKe hKr
    have hno : l.any (· == s) = false := by
      rw [List.any_eq_false]
      intro x hx
      obtain ⟨i, hi, rfl⟩ := List.getElem_of_mem hx
      rw [hall i hi _ (List.getElem?_eq_getElem hi)]; decide
    simp -implicitDefEqProofs only [c43_l0, ↓v_lenS, SB, POp.val, AOp.val, WOp.val, Lite.bin, intBin, strBin, eqv, eqMany, eq1, AV.asBool, AV.asInt, AV.asNat, AV.asPtr, AV.asStr, resVals, ResV.val, oneOr, wants, skipped, fillAt, putAt, capOf, optNat, bnd, Nat.reduceBEq, reduceIte, Nat.reduceAdd, Nat.reduceLeDiff, Nat.reduceEqDiff, Nat.reduceSub, Nat.reduceMul, Nat.reduceDiv, SOper.again, same, sameBlk, sameCap, Nat.reduceBneDiff, s_draw2, s_pair, k_pair, asunder, SOper.into, Bool.not_false, Bool.not_true, XS, h0, h1, h3, Int.lt_irrefl, hKe, gives_ret, hno]
    exact ⟨_, rfl⟩
  · simp -implicitDefEqProofs only [↓v_lenS, SB, POp.val, AOp.val, WOp.val, Lite.bin, intBin, strBin, eqv, eqMany, eq1, AV.asBool, AV.asInt, AV.asNat, AV.asPtr, AV.asStr, resVals, ResV.val, oneOr, wants, skipped, fillAt, putAt, capOf, optNat, bnd, Nat.reduceBEq, reduceIte, Nat.reduceAdd, Nat.reduceLeDiff, Nat.reduceEqDiff, Nat.reduceSub, Nat.reduceMul, Nat.reduceDiv, SOper.again, same, sameBlk, sameCap, Nat.reduceBneDiff, s_draw2, s_pair, k_pair, asunder, SOper.into, Bool.not_false, Bool.not_true]
    exact ⟨fun j hj => by omega, rfl⟩

end Go.Lite

/-
  A list's beginning.
-/
namespace Go.Lite
open Go Go.Proofs
set_option maxRecDepth 100000
set_option linter.unusedSimpArgs false
set_option linter.unusedVariables false

/-- a list, up to some place -/
theorem slice_vTake {α : Type} {f : Bool} {es : Nat} {g : α → List AV} {l : List α} {j : Nat} (hg : ∀ x, (g x).length = es) (hj : j ≤ l.length) :
    ∃ y f', sliceOf es (vList f es g l) none (some j) none = some y ∧ ∀ H, shutV y H = some (vList f' es g (l.take j), H) := by
  cases l with
  | nil =>
    obtain rfl : j = 0 := by simpa using hj
    refine ⟨.lst 0 0 f [], f, ?_, fun H => by rw [List.take_nil, vList_nil, shutV_lstF, L_zero]⟩
    simp only [vList_nil, sliceOf, Option.getD_some, Option.getD_none]
    rw [if_pos ⟨by omega, by omega, by omega, .inr trivial⟩]
    cases f <;> simp
  | cons x l =>
    have h1 : (g x ++ l.flatMap g) = (x :: l).flatMap g := by simp
    refine ⟨.lst es j false (((x :: l).take j).flatMap g), false, ?_, fun H => ?_⟩
    · simp only [vList_cons, sliceOf, Option.getD_some, Option.getD_none]
      simp only [List.length_cons] at hj
      rw [if_pos ⟨by omega, by omega, by omega, .inl trivial⟩, h1, Nat.zero_mul, List.drop_zero, Nat.sub_zero, flat_take hg]
      rfl
    · rw [shutV_lstF]
      unfold vList
      rw [List.length_take, Nat.min_eq_left hj]

/-- none is empty, none stands ahead of itself -/
def onceAt (l : List Str) (i : Nat) (x : Str) : Bool := !((x == []) || (l.take i).any (· == x))
def OnceB (l : List Str) : Prop := ∀ i x, l[i]? = some x → onceAt l i x = true

theorem once21 (l : List Str) (hl : l.length ≤ 1048576) (h : OnceB l) : Ret P3 21 [vStrs l] (.bool true) := by
  have hin : Ev fun n => ∀ i ∈ List.range l.length, ∀ x ∈ l, ∀ f' ∈ [true, false], ∀ H, callN P3 n 43 [vList f' 1 str1 (l.take i), .str x] H = some (.ret (.bool ((l.take i).any (· == x))), H) :=
    Ev.all _ fun i _ => Ev.all l fun x _ => Ev.all _ fun f' _ => in43 f' (l.take i) x (by rw [List.length_take]; omega)
  refine Ret.of rfl (code21 _ _) rfl rfl (fun H => by simp -implicitDefEqProofs only [↓v_lenS, SB, POp.val, AOp.val, WOp.val, Lite.bin, intBin, strBin, eqv, eqMany, eq1, AV.asBool, AV.asInt, AV.asNat, AV.asPtr, AV.asStr, resVals, ResV.val, oneOr, wants, skipped, fillAt, putAt, capOf, optNat, bnd, Nat.reduceBEq, reduceIte, Nat.reduceAdd, Nat.reduceLeDiff, Nat.reduceEqDiff, Nat.reduceSub, Nat.reduceMul, Nat.reduceDiv, SOper.again, same, sameBlk, sameCap, Nat.reduceBneDiff, s_draw2, s_pair, k_pair, asunder, SOper.into, Bool.not_false, Bool.not_true, XS]) ?_
  refine (hin.and (Ev.ge (l.length + 1))).mono fun n hn H => ?_
  obtain ⟨hin, hge⟩ := hn
  simp -implicitDefEqProofs only [c21, ↓v_lenS, SB, POp.val, AOp.val, WOp.val, Lite.bin, intBin, strBin, eqv, eqMany, eq1, AV.asBool, AV.asInt, AV.asNat, AV.asPtr, AV.asStr, resVals, ResV.val, oneOr, wants, skipped, fillAt, putAt, capOf, optNat, bnd, Nat.reduceBEq, reduceIte, Nat.reduceAdd, Nat.reduceLeDiff, Nat.reduceEqDiff, Nat.reduceSub, Nat.reduceMul, Nat.reduceDiv, SOper.again, same, sameBlk, sameCap, Nat.reduceBneDiff, s_draw2, s_pair, k_pair, asunder, SOper.into, Bool.not_false, Bool.not_true, CL, XS]
  refine loop_rounds l.length (fun i fr H => fr 0 = vStrs l ∧ fr 3 = .int .i64 i) ?_ ?_ n 0 _ _ (by omega) (by omega) ?_
  · rintro i fr H K' hi ⟨h0, h3⟩ hKe hKr hK
    obtain ⟨x, hx⟩ : ∃ x, l[i]? = some x := ⟨l[i], List.getElem?_eq_getElem hi⟩
    have hlt : (i : Int) < (l.length : Int) := by omega
    have hw := wrap_succ hi (by omega)
    obtain ⟨y, f', hy, hys⟩ := slice_vTake (f := true) (es := 1) (g := str1) (l := l) (j := i) str1_len (by omega)
    have hy : sliceOf 1 (vStrs l) none (some i) none = some y := hy
    have e1 := hin i (List.mem_range.2 hi) x (List.mem_of_getElem? hx) f' (by cases f' <;> simp)
    have hx1 := h i x hx
    simp only [onceAt, Bool.not_eq_true', Bool.or_eq_false_iff] at hx1
    obtain ⟨hx1, hx2⟩ := hx1
    rw [hx2] at e1
    simp -implicitDefEqProofs only [c21_l0, ↓v_lenS, SB, POp.val, AOp.val, WOp.val, Lite.bin, intBin, strBin, eqv, eqMany, eq1, AV.asBool, AV.asInt, AV.asNat, AV.asPtr, AV.asStr, resVals, ResV.val, oneOr, wants, skipped, fillAt, putAt, capOf, optNat, bnd, Nat.reduceBEq, reduceIte, Nat.reduceAdd, Nat.reduceLeDiff, Nat.reduceEqDiff, Nat.reduceSub, Nat.reduceMul, Nat.reduceDiv, SOper.again, same, sameBlk, sameCap, Nat.reduceBneDiff, s_draw2, s_pair, k_pair, asunder, SOper.into, Bool.not_false, Bool.not_true, CL, XS, h0, h3, hlt, iaddr_vStrs hx, hx1, hy, hys, e1, hw]
    refine hK _ _ ?_
    simp -implicitDefEqProofs only [↓v_lenS, SB, POp.val, AOp.val, WOp.val, Lite.bin, intBin, strBin, eqv, eqMany, eq1, AV.asBool, AV.asInt, AV.asNat, AV.asPtr, AV.asStr, resVals, ResV.val, oneOr, wants, skipped, fillAt, putAt, capOf, optNat, bnd, Nat.reduceBEq, reduceIte, Nat.reduceAdd, Nat.reduceLeDiff, Nat.reduceEqDiff, Nat.reduceSub, Nat.reduceMul, Nat.reduceDiv, SOper.again, same, sameBlk, sameCap, Nat.reduceBneDiff, s_draw2, s_pair, k_pair, asunder, SOper.into, Bool.not_false, Bool.not_true, h0]
  · rintro fr H K' ⟨h0, h3⟩ hKe hKr
    simp -implicitDefEqProofs only [c21_l0, ↓v_lenS, SB, POp.val, AOp.val, WOp.val, Lite.bin, intBin, strBin, eqv, eqMany, eq1, AV.asBool, AV.asInt, AV.asNat, AV.asPtr, AV.asStr, resVals, ResV.val, oneOr, wants, skipped, fillAt, putAt, capOf, optNat, bnd, Nat.reduceBEq, reduceIte, Nat.reduceAdd, Nat.reduceLeDiff, Nat.reduceEqDiff, Nat.reduceSub, Nat.reduceMul, Nat.reduceDiv, SOper.again, same, sameBlk, sameCap, Nat.reduceBneDiff, s_draw2, s_pair, k_pair, asunder, SOper.into, Bool.not_false, Bool.not_true, XS, h0, h3, Int.lt_irrefl, hKe, gives_ret]
    exact ⟨_, rfl⟩
  · simp -implicitDefEqProofs only [↓v_lenS, SB, POp.val, AOp.val, WOp.val, Lite.bin, intBin, strBin, eqv, eqMany, eq1, AV.asBool, AV.asInt, AV.asNat, AV.asPtr, AV.asStr, resVals, ResV.val, oneOr, wants, skipped, fillAt, putAt, capOf, optNat, bnd, Nat.reduceBEq, reduceIte, Nat.reduceAdd, Nat.reduceLeDiff, Nat.reduceEqDiff, Nat.reduceSub, Nat.reduceMul, Nat.reduceDiv, SOper.again, same, sameBlk, sameCap, Nat.reduceBneDiff, s_draw2, s_pair, k_pair, asunder, SOper.into, Bool.not_false, Bool.not_true]
    rfl

end Go.Lite

/-
  Right terms, as the maker makes them; what norm does to sizes, names that are bound, names that are free.
-/
namespace Go.Lite
open Go Go.Proofs
set_option maxRecDepth 100000
set_option linter.unusedSimpArgs false
set_option linter.unusedVariables false

/-! ### How many arguments are no atoms -/

mutual
def X.thick : X → Nat
  | .mk k t _ l => X.thicks l ((must k t).getD l.length) 0
def X.thicks : List X → Nat → Nat → Nat
  | [], _, _ => 0
  | x :: l, m, i => x.thick + (if m ≤ i ∧ x.atom = false then 1 else 0) + X.thicks l m (i + 1)
end

mutual
/-- how many are no atoms -/
def X.nodes : X → Nat
  | .mk k _ _ l => (if atomK k = true then 0 else 1) + X.nodess l
def X.nodess : List X → Nat
  | [] => 0
  | x :: l => x.nodes + X.nodess l
end

theorem thick_nodes : ∀ x : X, x.thick + (if x.atom = true then 0 else 1) ≤ x.nodes := X.indA fun k t ns l ih => by
  have key : ∀ (l : List X), (∀ x ∈ l, x.thick + (if x.atom = true then 0 else 1) ≤ x.nodes) → ∀ m i, X.thicks l m i ≤ X.nodess l := by
    intro l
    induction l with
    | nil => intro _ m i; simp [X.thicks]
    | cons x l ihl =>
      intro h m i
      have h1 := h x (by simp)
      have h2 := ihl (fun y hy => h y (by simp [hy])) m (i + 1)
      rw [X.thicks, X.nodess]
      cases ha : x.atom with
      | true => rw [ha] at h1; simp at h1 ⊢; omega
      | false => rw [ha] at h1; simp at h1 ⊢; split <;> omega
  have := key l ih ((must k t).getD l.length) 0
  rw [X.thick, X.nodes, X.atom]
  omega

theorem thick_le (x : X) : x.thick ≤ x.nodes := by have := thick_nodes x; omega

/-! ### Norm's atoms, counts, sizes -/

theorem must_kind {k : Int} {t : Str} {m : Nat} (h : must k t = some m) : (k = 7 ∧ m = 1) ∨ (k = 10 ∧ t = consT ∧ m = 0) := by
  unfold must at h
  split at h
  · rename_i h7; exact .inl ⟨h7, by simpa using h.symm⟩
  · split at h
    · rename_i h10; exact .inr ⟨h10.1, h10.2, by simpa using h.symm⟩
    · cases h

theorem nrms_none (l : List X) (i c m : Nat) (h : i + l.length ≤ m) : (X.nrms l m i c).2.1 = [] := by
  induction l generalizing i c with
  | nil => simp [X.nrms]
  | cons x l ih =>
    simp only [List.length_cons] at h
    rw [X.nrms, if_neg (by omega)]
    exact ih _ _ (by omega)

theorem bindAll_atom (p : Str × X) (l : List (Str × X)) (e : X) : (bindAll (p :: l) e).atom = false := rfl

theorem nrm_atom (x : X) (c : Nat) : (x.nrm c).1.atom = x.atom := by
  obtain ⟨k, t, ns, l⟩ := x
  rw [X.nrm]
  cases hm : must k t with
  | none =>
    rw [Option.getD_none, nrms_none l 0 c l.length (by omega)]
    rfl
  | some m =>
    rw [Option.getD_some]
    have hk : atomK k = false := by
      rcases must_kind hm with ⟨rfl, _⟩ | ⟨rfl, _, _⟩ <;> rfl
    cases (X.nrms l m 0 c).2.1 with
    | nil => rfl
    | cons p q => rw [bindAll_atom]; exact hk.symm

theorem nrms_count (l : List X) (h : ∀ x ∈ l, ∀ c, (x.nrm c).2 = c + x.thick) (m i c : Nat) : (X.nrms l m i c).2.2 = c + X.thicks l m i := by
  induction l generalizing i c with
  | nil => simp [X.nrms, X.thicks]
  | cons x l ih =>
    have hx := h x (by simp) c
    have ih := fun i c => ih (fun y hy => h y (by simp [hy])) i c
    rw [X.nrms, X.thicks, nrm_atom]
    split
    · simp only [ih, hx]; omega
    · simp only [ih, hx]; omega

theorem nrm_count : ∀ (x : X) (c : Nat), (x.nrm c).2 = c + x.thick := X.indA fun k t ns l ih c => by
  rw [X.nrm, X.thick]
  exact nrms_count l ih _ _ _

/-- the sizes of what is bound -/
def bindSizes (l : List (Str × X)) : Nat := X.sizes (l.map (·.2))

theorem bindAll_size (l : List (Str × X)) (e : X) : (bindAll l e).size = e.size + bindSizes l + l.length := by
  induction l with
  | nil => simp [bindAll, bindSizes, X.sizes]
  | cons p l ih =>
    show (bindX p.1 p.2 (bindAll l e)).size = _
    simp only [bindX, X.size, X.sizes, ih, bindSizes, List.map_cons, List.length_cons]
    omega

theorem nrms_size (l : List X) (h : ∀ x ∈ l, ∀ c, (x.nrm c).1.size = x.size + 2 * x.thick) (m i c : Nat) :
    X.sizes (X.nrms l m i c).1 + bindSizes (X.nrms l m i c).2.1 + (X.nrms l m i c).2.1.length = X.sizes l + 2 * X.thicks l m i := by
  induction l generalizing i c with
  | nil => simp [X.nrms, X.thicks, X.sizes, bindSizes]
  | cons x l ih =>
    have hx := h x (by simp) c
    rw [X.nrms, X.thicks, nrm_atom]
    split
    · have := ih (fun y hy => h y (by simp [hy])) (i + 1) ((x.nrm c).2 + 1)
      simp only [bindSizes] at this ⊢
      simp only [X.sizes, List.map_cons, List.length_cons, varX, X.size, hx]
      omega
    · have := ih (fun y hy => h y (by simp [hy])) (i + 1) (x.nrm c).2
      simp only [X.sizes, hx]
      omega

theorem nrm_size : ∀ (x : X) (c : Nat), (x.nrm c).1.size = x.size + 2 * x.thick := X.indA fun k t ns l ih c => by
  have := nrms_size l ih ((must k t).getD l.length) 0 c
  rw [X.nrm, X.thick, bindAll_size, X.size, X.size]
  omega

/-! ### Names that are bound -/

mutual
def X.bnd : X → List Str
  | .mk _ _ ns l => ns ++ X.bnds l
def X.bnds : List X → List Str
  | [] => []
  | x :: l => x.bnd ++ X.bnds l
end

/-- names of norm's, from one number to the other -/
def pcts (c n : Nat) : List Str := (List.range' (c + 1) n).map pct

theorem pcts_add (c a b : Nat) : pcts c (a + b) = pcts c a ++ pcts (c + a) b := by
  unfold pcts
  rw [← List.map_append, show c + a + 1 = (c + 1) + a by omega, List.range'_append_1]
theorem pcts_one (c : Nat) : pcts c 1 = [pct (c + 1)] := rfl
theorem pcts_zero (c : Nat) : pcts c 0 = [] := rfl

def bindBnds (l : List (Str × X)) : List Str := l.flatMap fun p => p.1 :: p.2.bnd

theorem bindAll_bnd (l : List (Str × X)) (e : X) : (bindAll l e).bnd = bindBnds l ++ e.bnd := by
  induction l with
  | nil => simp [bindAll, bindBnds]
  | cons p l ih =>
    show (bindX p.1 p.2 (bindAll l e)).bnd = _
    simp only [bindX, X.bnd, X.bnds, ih, bindBnds, List.flatMap_cons, List.append_nil]
    simp

theorem nrms_bnd (l : List X) (h : ∀ x ∈ l, ∀ c, (x.nrm c).1.bnd.Perm (x.bnd ++ pcts c x.thick)) (m i c : Nat) :
    (bindBnds (X.nrms l m i c).2.1 ++ X.bnds (X.nrms l m i c).1).Perm (X.bnds l ++ pcts c (X.thicks l m i)) := by
  induction l generalizing i c with
  | nil => simp [X.nrms, X.thicks, X.bnds, bindBnds, pcts]
  | cons x l ih =>
    have hx := h x (by simp) c
    have hc := nrm_count x c
    rw [X.nrms, X.thicks, nrm_atom]
    split
    · have := ih (fun y hy => h y (by simp [hy])) (i + 1) ((x.nrm c).2 + 1)
      rw [hc] at this
      simp only [bindBnds] at this ⊢
      simp only [X.bnds, List.flatMap_cons, hc, varX, X.bnd, List.nil_append]
      rw [pcts_add, pcts_add, pcts_one, List.cons_append, List.cons_append, List.append_assoc]
      have h1 := List.Perm.append hx this
      refine (List.Perm.cons _ h1).trans ?_
      rw [show c + (x.thick + 1) = c + x.thick + 1 by omega]
      simp only [List.append_assoc, List.cons_append, List.nil_append]
      generalize pcts c x.thick = A
      generalize pcts (c + x.thick + 1) (X.thicks l m (i + 1)) = B
      generalize pct (c + x.thick + 1) = p
      have h2 : (x.bnd ++ (A ++ (X.bnds l ++ B))).Perm (x.bnd ++ (X.bnds l ++ (A ++ B))) := by
        refine List.Perm.append_left _ ?_
        rw [← List.append_assoc, ← List.append_assoc]
        exact List.Perm.append_right _ List.perm_append_comm
      refine (List.Perm.cons _ h2).trans ?_
      rw [show x.bnd ++ (X.bnds l ++ (A ++ p :: B)) = (x.bnd ++ X.bnds l ++ A) ++ p :: B by simp]
      refine List.Perm.trans ?_ List.perm_middle.symm
      simp
    · have := ih (fun y hy => h y (by simp [hy])) (i + 1) (x.nrm c).2
      rw [hc] at this
      simp only [Nat.add_zero, X.bnds]
      rw [pcts_add, hc]
      rw [← List.append_assoc]
      have h0 : (bindBnds (X.nrms l m (i + 1) (c + x.thick)).2.1 ++ (x.nrm c).1.bnd ++ X.bnds (X.nrms l m (i + 1) (c + x.thick)).1).Perm ((x.nrm c).1.bnd ++ (bindBnds (X.nrms l m (i + 1) (c + x.thick)).2.1 ++ X.bnds (X.nrms l m (i + 1) (c + x.thick)).1)) := by
        rw [← List.append_assoc]
        exact List.Perm.append_right _ List.perm_append_comm
      refine h0.trans ((List.Perm.append hx this).trans ?_)
      simp only [List.append_assoc]
      refine List.Perm.append_left _ ?_
      rw [← List.append_assoc, ← List.append_assoc]
      exact List.Perm.append_right _ List.perm_append_comm

theorem nrm_bnd : ∀ (x : X) (c : Nat), (x.nrm c).1.bnd.Perm (x.bnd ++ pcts c x.thick) := X.indA fun k t ns l ih c => by
  have := nrms_bnd l ih ((must k t).getD l.length) 0 c
  rw [X.nrm, X.thick, bindAll_bnd, X.bnd, X.bnd]
  rw [← List.append_assoc, List.append_assoc ns]
  refine List.Perm.trans ?_ (List.Perm.append_left ns this)
  rw [← List.append_assoc]
  exact List.Perm.append_right _ List.perm_append_comm

/-! ### What is right -/

def intT : List Str := [[48], [49], [50], [45, 51], [49, 48], [45, 53], [55], [49, 48, 48, 48, 48, 48, 48, 48, 48, 48, 48, 48, 48, 48, 48, 48, 48, 48, 48, 48, 48], [53]]

/-- a kind, a text, so many names, so many parts -/
def shp (k : Int) (t : Str) (m n : Nat) : Prop :=
  (k = 1 ∧ t ∈ intT ∧ m = 0 ∧ n = 0) ∨ (k = 2 ∧ (t = [35, 116] ∨ t = [35, 102]) ∧ m = 0 ∧ n = 0) ∨ (k = 3 ∧ t = [] ∧ m = 0 ∧ n = 0) ∨ (k = 4 ∧ t ≠ [] ∧ m = 0 ∧ n = 0) ∨ (k = 5 ∧ t ≠ [] ∧ m = 0 ∧ n = 0) ∨
  (k = 6 ∧ t = [] ∧ 0 < m ∧ n = 1) ∨ (k = 7 ∧ t = [] ∧ m = 0 ∧ 2 ≤ n) ∨ (k = 8 ∧ t = [] ∧ m = 0 ∧ n = 3) ∨ (k = 9 ∧ t = [] ∧ 0 < m ∧ n = m + 1) ∨ (k = 10 ∧ 0 < arityX t ∧ (n : Int) = arityX t ∧ m = 0)

mutual
def X.right : X → Prop
  | .mk k t ns l => shp k t ns.length l.length ∧ OnceB ns ∧ X.rights l
def X.rights : List X → Prop
  | [] => True
  | x :: l => x.right ∧ X.rights l
end
theorem rights_iff (l : List X) : X.rights l ↔ ∀ x ∈ l, x.right := by
  induction l with
  | nil => simp [X.rights]
  | cons x l ih => rw [X.rights, ih]; simp

theorem onceB_nil : OnceB [] := fun i x h => by simp at h
theorem onceB_one {s : Str} (h : s ≠ []) : OnceB [s] := fun i x hx => by
  cases i with
  | zero =>
    simp only [List.getElem?_cons_zero, Option.some.injEq] at hx
    subst hx
    simp [onceAt, h]
  | succ i => simp at hx

theorem onceB_of {l : List Str} (h1 : l.Nodup) (h2 : [] ∉ l) : OnceB l := fun i x hx => by
  have hm := List.mem_of_getElem? hx
  have hne : x ≠ [] := fun e => h2 (e ▸ hm)
  have hno : (l.take i).any (· == x) = false := by
    rw [List.any_eq_false]
    intro y hy
    obtain ⟨j, hj⟩ := List.mem_iff_getElem?.1 hy
    have hji : j < i := by
      have := (List.getElem?_eq_some_iff.1 hj).1
      rw [List.length_take] at this; omega
    rw [List.getElem?_take_of_lt hji] at hj
    obtain ⟨hi, hix⟩ := List.getElem?_eq_some_iff.1 hx
    obtain ⟨hjl, hjx⟩ := List.getElem?_eq_some_iff.1 hj
    have := (List.nodup_iff_pairwise_ne.1 h1)
    rw [List.pairwise_iff_getElem] at this
    have := this j i hjl hi hji
    rw [hix, hjx] at this
    simpa using this
  simp [onceAt, hne, hno]

theorem pct_ne (n : Nat) : pct n ≠ [] := by simp [pct]

theorem varX_right (n : Nat) : (varX (pct n)).right := ⟨.inr (.inr (.inr (.inr (.inl ⟨rfl, pct_ne n, rfl, rfl⟩)))), onceB_nil, trivial⟩

theorem bindAll_right (l : List (Str × X)) (e : X) (hl : ∀ p ∈ l, p.1 ≠ [] ∧ p.2.right) (he : e.right) : (bindAll l e).right := by
  induction l with
  | nil => exact he
  | cons p l ih =>
    have h1 := ih fun q hq => hl q (by simp [hq])
    have h2 := hl p (by simp)
    show (bindX p.1 p.2 (bindAll l e)).right
    exact ⟨.inr (.inr (.inr (.inr (.inr (.inr (.inr (.inr (.inl ⟨rfl, rfl, by simp, rfl⟩)))))))), onceB_one h2.1, h2.2, h1, trivial⟩

theorem nrms_right (l : List X) (h : ∀ x ∈ l, ∀ c, (x.nrm c).1.right) (m i c : Nat) : (∀ p ∈ (X.nrms l m i c).2.1, p.1 ≠ [] ∧ p.2.right) ∧ (∀ y ∈ (X.nrms l m i c).1, y.right) := by
  induction l generalizing i c with
  | nil => simp [X.nrms]
  | cons x l ih =>
    have hx := h x (by simp) c
    have ih := fun i c => ih (fun y hy => h y (by simp [hy])) i c
    rw [X.nrms]
    split
    · obtain ⟨h1, h2⟩ := ih (i + 1) ((x.nrm c).2 + 1)
      refine ⟨fun p hp => ?_, fun y hy => ?_⟩
      · rcases List.mem_cons.1 hp with rfl | hp
        · exact ⟨pct_ne _, hx⟩
        · exact h1 p hp
      · rcases List.mem_cons.1 hy with rfl | hy
        · exact varX_right _
        · exact h2 y hy
    · obtain ⟨h1, h2⟩ := ih (i + 1) (x.nrm c).2
      refine ⟨h1, fun y hy => ?_⟩
      rcases List.mem_cons.1 hy with rfl | hy
      · exact hx
      · exact h2 y hy

theorem nrm_right : ∀ (x : X), x.right → ∀ c, (x.nrm c).1.right := X.indA fun k t ns a ih hf c => by
  obtain ⟨f1, f2, f3⟩ := hf
  have f3 := (rights_iff a).1 f3
  rw [X.nrm]
  obtain ⟨h1, h2⟩ := nrms_right a (fun x hx => ih x hx (f3 x hx)) ((must k t).getD a.length) 0 c
  exact bindAll_right _ _ h1 ⟨by rw [nrms_len]; exact f1, f2, (rights_iff _).2 h2⟩

/-! ### Names that are free -/

/-- a set with one more -/
def withS (l : List Str) (s : Str) : List Str := if l.any (· == s) = true then l else l.takeWhile (fun x => less x s) ++ s :: l.dropWhile (fun x => less x s)

theorem mem_withS {l : List Str} {s x : Str} : x ∈ withS l s ↔ x ∈ l ∨ x = s := by
  unfold withS
  split
  · rename_i h
    obtain ⟨y, hy, e⟩ := List.any_eq_true.1 h
    have : y = s := by simpa using e
    subst this
    exact ⟨.inl, fun h => h.elim id fun e => e ▸ hy⟩
  · rw [List.mem_append, List.mem_cons]
    have : x ∈ l ↔ x ∈ l.takeWhile (fun x => less x s) ∨ x ∈ l.dropWhile (fun x => less x s) := by
      rw [← List.mem_append, List.takeWhile_append_dropWhile]
    rw [this]
    constructor
    · rintro (h | h | h)
      · exact .inl (.inl h)
      · exact .inr h
      · exact .inl (.inr h)
    · rintro ((h | h) | h)
      · exact .inl h
      · exact .inr (.inr h)
      · exact .inr (.inl h)

def withoutS (l ns : List Str) : List Str := l.filter fun s => !(ns.any (· == s))
theorem mem_withoutS {l ns : List Str} {x : Str} : x ∈ withoutS l ns ↔ x ∈ l ∧ x ∉ ns := by
  rw [withoutS, List.mem_filter, Bool.not_eq_true', List.any_eq_false]
  refine and_congr Iff.rfl ⟨fun h hx => h x hx (by simp), fun h y hy e => h ?_⟩
  have : y = x := by simpa using e
  rw [← this]; exact hy

mutual
def X.free : X → List Str
  | .mk k t ns l => if k = 5 then [t] else withoutS (X.frees l []) ns
def X.frees : List X → List Str → List Str
  | [], out => out
  | x :: l, out => X.frees l (x.free.foldl withS out)
end

theorem mem_foldl {x : Str} : ∀ (l out : List Str), x ∈ l.foldl withS out ↔ x ∈ out ∨ x ∈ l
  | [], out => by simp
  | s :: l, out => by
    rw [List.foldl_cons, mem_foldl l, mem_withS, List.mem_cons]
    constructor
    · rintro ((h | h) | h)
      · exact .inl h
      · exact .inr (.inl h)
      · exact .inr (.inr h)
    · rintro (h | h | h)
      · exact .inl (.inl h)
      · exact .inl (.inr h)
      · exact .inr h

theorem mem_frees {s : Str} : ∀ (l : List X) (out : List Str), s ∈ X.frees l out ↔ s ∈ out ∨ ∃ x ∈ l, s ∈ x.free
  | [], out => by simp [X.frees]
  | x :: l, out => by
    rw [X.frees, mem_frees l, mem_foldl]
    simp only [List.mem_cons, exists_eq_or_imp]
    constructor
    · rintro ((h | h) | h)
      · exact .inl h
      · exact .inr (.inl h)
      · exact .inr (.inr h)
    · rintro (h | h | h)
      · exact .inl (.inl h)
      · exact .inl (.inr h)
      · exact .inr h

theorem mem_free {s : Str} {k : Int} {t : Str} {ns : List Str} {l : List X} : s ∈ (X.mk k t ns l).free ↔ (k = 5 ∧ s = t) ∨ (k ≠ 5 ∧ (∃ x ∈ l, s ∈ x.free) ∧ s ∉ ns) := by
  rw [X.free]
  by_cases h : k = 5
  · rw [if_pos h]; simp [h]
  · rw [if_neg h, mem_withoutS, mem_frees]; simp [h]

theorem bindAll_free {s : Str} (l : List (Str × X)) (e : X) (h : s ∈ (bindAll l e).free) : (∃ p ∈ l, s ∈ p.2.free) ∨ (s ∈ e.free ∧ ∀ p ∈ l, s ≠ p.1) := by
  induction l with
  | nil => exact .inr ⟨h, fun p hp => by cases hp⟩
  | cons p l ih =>
    have h : s ∈ (bindX p.1 p.2 (bindAll l e)).free := h
    rw [bindX, mem_free] at h
    rcases h with ⟨h9, _⟩ | ⟨_, ⟨x, hx, hs⟩, hn⟩
    · exact absurd h9 (by decide)
    · simp only [List.mem_cons, List.not_mem_nil, or_false] at hx hn
      rcases hx with rfl | rfl
      · exact .inl ⟨p, by simp, hs⟩
      · rcases ih hs with ⟨q, hq, hsq⟩ | ⟨h1, h2⟩
        · exact .inl ⟨q, by simp [hq], hsq⟩
        · refine .inr ⟨h1, fun q hq => ?_⟩
          rcases List.mem_cons.1 hq with rfl | hq
          · exact hn
          · exact h2 q hq

theorem nrms_free (l : List X) (h : ∀ x ∈ l, ∀ c s, s ∈ (x.nrm c).1.free → s ∈ x.free) (m i c : Nat) :
    (∀ p ∈ (X.nrms l m i c).2.1, ∀ s, s ∈ p.2.free → ∃ x ∈ l, s ∈ x.free) ∧ (∀ y ∈ (X.nrms l m i c).1, ∀ s, s ∈ y.free → (∃ x ∈ l, s ∈ x.free) ∨ ∃ p ∈ (X.nrms l m i c).2.1, s = p.1) := by
  induction l generalizing i c with
  | nil => simp [X.nrms]
  | cons x l ih =>
    have hx := h x (by simp) c
    have ih := fun i c => ih (fun y hy => h y (by simp [hy])) i c
    have up : ∀ {s : Str}, (∃ x ∈ l, s ∈ x.free) → ∃ y ∈ x :: l, s ∈ y.free := fun ⟨y, hy, hs⟩ => ⟨y, by simp [hy], hs⟩
    rw [X.nrms]
    split
    · obtain ⟨h1, h2⟩ := ih (i + 1) ((x.nrm c).2 + 1)
      refine ⟨fun p hp s hs => ?_, fun y hy s hs => ?_⟩
      · rcases List.mem_cons.1 hp with rfl | hp
        · exact ⟨x, by simp, hx s hs⟩
        · exact up (h1 p hp s hs)
      · rcases List.mem_cons.1 hy with rfl | hy
        · rw [varX, mem_free] at hs
          rcases hs with ⟨_, hs⟩ | ⟨h5, _⟩
          · exact .inr ⟨_, List.mem_cons_self, hs⟩
          · exact absurd rfl h5
        · rcases h2 y hy s hs with h | ⟨p, hp, e⟩
          · exact .inl (up h)
          · exact .inr ⟨p, by simp [hp], e⟩
    · obtain ⟨h1, h2⟩ := ih (i + 1) (x.nrm c).2
      refine ⟨fun p hp s hs => up (h1 p hp s hs), fun y hy s hs => ?_⟩
      rcases List.mem_cons.1 hy with rfl | hy
      · exact .inl ⟨x, by simp, hx s hs⟩
      · rcases h2 y hy s hs with h | h
        · exact .inl (up h)
        · exact .inr h

theorem shp_must {k : Int} {t : Str} {m n j : Nat} (h : shp k t m n) (hm : must k t = some j) : m = 0 := by
  rcases must_kind hm with ⟨rfl, _⟩ | ⟨rfl, _, _⟩ <;> simp [shp] at h <;> omega

theorem nrm_free : ∀ (x : X), x.right → ∀ c s, s ∈ (x.nrm c).1.free → s ∈ x.free := X.indA fun k t ns a ih hr c s hs => by
  obtain ⟨r1, r2, r3⟩ := hr
  have r3 := (rights_iff a).1 r3
  rw [X.nrm] at hs
  obtain ⟨h1, h2⟩ := nrms_free a (fun x hx => ih x hx (r3 x hx)) ((must k t).getD a.length) 0 c
  rw [mem_free]
  have hns : (X.nrms a ((must k t).getD a.length) 0 c).2.1 ≠ [] → ns = [] ∧ k ≠ 5 := fun hne => by
    cases hm : must k t with
    | none => rw [hm, Option.getD_none, nrms_none a 0 c a.length (by omega)] at hne; exact absurd rfl hne
    | some m =>
      refine ⟨List.eq_nil_of_length_eq_zero (shp_must r1 hm), ?_⟩
      rcases must_kind hm with ⟨rfl, _⟩ | ⟨rfl, _, _⟩ <;> decide
  rcases bindAll_free _ _ hs with ⟨p, hp, hps⟩ | ⟨h, hno⟩
  · obtain ⟨e1, e2⟩ := hns (List.ne_nil_of_mem hp)
    exact .inr ⟨e2, h1 p hp s hps, by rw [e1]; simp⟩
  · rw [mem_free] at h
    rcases h with h | ⟨h5, ⟨y, hy, hsy⟩, hn⟩
    · exact .inl h
    · rcases h2 y hy s hsy with h | ⟨p, hp, e⟩
      · exact .inr ⟨h5, h, hn⟩
      · exact absurd e (hno p hp)

/-! ### As the maker makes them -/

/-- a maker's name, by its number -/
def vds (m n : Nat) : List Str := (List.range' (m + 1) n).map vdot
theorem vds_add (c a b : Nat) : vds c (a + b) = vds c a ++ vds (c + a) b := by
  unfold vds
  rw [← List.map_append, show c + a + 1 = (c + 1) + a by omega, List.range'_append_1]
theorem vds_len (c n : Nat) : (vds c n).length = n := by simp [vds]
theorem vds_one (c : Nat) : vds c 1 = [vdot (c + 1)] := rfl

mutual
/-- with these names there; numbers of names from one to the other -/
def X.good : X → List Str → Nat → Nat → Prop
  | .mk k t ns l, sc, m, m' => shp k t ns.length l.length ∧ l.length ≤ 5 ∧ (k = 5 → t ∈ sc) ∧ ns = vds m ns.length ∧ X.goods l (sc ++ ns) (m + ns.length) m'
def X.goods : List X → List Str → Nat → Nat → Prop
  | [], _, m, m' => m = m'
  | x :: l, sc, m, m' => ∃ m1, x.good sc m m1 ∧ X.goods l sc m1 m'
end

theorem goods_snoc {sc : List Str} {x : X} {m' m2 : Nat} : ∀ (l : List X) (m : Nat), X.goods l sc m m' → x.good sc m' m2 → X.goods (l ++ [x]) sc m m2
  | [], m, h, hx => by rw [X.goods] at h; subst h; exact ⟨m2, hx, rfl⟩
  | y :: l, m, ⟨m1, h1, h2⟩, hx => ⟨m1, h1, goods_snoc l m1 h2 hx⟩

theorem good_bnd : ∀ (x : X) (sc : List Str) (m m' : Nat), x.good sc m m' → m ≤ m' ∧ x.bnd = vds m (m' - m) := X.indA fun k t ns l ih sc m m' h => by
  obtain ⟨h1, h2, h3, h4, h5⟩ := h
  have key : ∀ (l : List X), (∀ x ∈ l, ∀ sc m m', x.good sc m m' → m ≤ m' ∧ x.bnd = vds m (m' - m)) → ∀ sc m m', X.goods l sc m m' → m ≤ m' ∧ X.bnds l = vds m (m' - m) := by
    intro l
    induction l with
    | nil =>
      intro _ sc m m' h
      rw [X.goods] at h
      subst h
      exact ⟨Nat.le_refl _, by simp [X.bnds, vds]⟩
    | cons x l ihl =>
      intro h sc m m' hg
      obtain ⟨m1, g1, g2⟩ := hg
      obtain ⟨a1, a2⟩ := h x (by simp) sc m m1 g1
      obtain ⟨b1, b2⟩ := ihl (fun y hy => h y (by simp [hy])) sc m1 m' g2
      refine ⟨by omega, ?_⟩
      rw [X.bnds, a2, b2, show m' - m = (m1 - m) + (m' - m1) by omega, vds_add, show m + (m1 - m) = m1 by omega]
  obtain ⟨a1, a2⟩ := key l ih _ _ _ h5
  refine ⟨by omega, ?_⟩
  rw [X.bnd, a2, h4, vds_len, show m' - m = ns.length + (m' - (m + ns.length)) by omega, vds_add]

theorem numT_inj {a b : Nat} (h : numT a = numT b) : a = b := by
  unfold numT at h
  split at h <;> split at h <;> simp only [List.cons.injEq, and_true, reduceCtorEq, and_false, List.nil_eq, List.cons_ne_nil] at h
  · omega
  · omega
theorem vdot_inj {a b : Nat} (h : vdot a = vdot b) : a = b := numT_inj (by simpa [vdot] using h)
theorem pct_inj {a b : Nat} (h : pct a = pct b) : a = b := numT_inj (by simpa [pct] using h)
theorem vdot_ne (n : Nat) : vdot n ≠ [] := by simp [vdot]

theorem vds_nodup (m n : Nat) : (vds m n).Nodup := by
  unfold vds
  rw [List.nodup_iff_pairwise_ne, List.pairwise_map]
  exact (List.nodup_iff_pairwise_ne.1 List.nodup_range').imp fun h e => h (vdot_inj e)
theorem pcts_nodup (m n : Nat) : (pcts m n).Nodup := by
  unfold pcts
  rw [List.nodup_iff_pairwise_ne, List.pairwise_map]
  exact (List.nodup_iff_pairwise_ne.1 List.nodup_range').imp fun h e => h (pct_inj e)
theorem mem_vds {s : Str} {m n : Nat} (h : s ∈ vds m n) : ∃ j, s = vdot j := by
  obtain ⟨j, _, rfl⟩ := List.mem_map.1 h
  exact ⟨j, rfl⟩
theorem mem_pcts {s : Str} {m n : Nat} (h : s ∈ pcts m n) : ∃ j, s = pct j := by
  obtain ⟨j, _, rfl⟩ := List.mem_map.1 h
  exact ⟨j, rfl⟩

theorem vds_once (m n : Nat) : OnceB (vds m n) := onceB_of (vds_nodup m n) fun h => by
  obtain ⟨j, e⟩ := mem_vds h
  exact vdot_ne j e.symm

theorem good_right : ∀ (x : X) (sc : List Str) (m m' : Nat), x.good sc m m' → x.right := X.indA fun k t ns l ih sc m m' h => by
  obtain ⟨h1, h2, h3, h4, h5⟩ := h
  have key : ∀ (l : List X), (∀ x ∈ l, ∀ sc m m', x.good sc m m' → x.right) → ∀ sc m m', X.goods l sc m m' → X.rights l := by
    intro l
    induction l with
    | nil => intro _ sc m m' h; trivial
    | cons x l ihl =>
      intro h sc m m' hg
      obtain ⟨m1, g1, g2⟩ := hg
      exact ⟨h x (by simp) sc m m1 g1, ihl (fun y hy => h y (by simp [hy])) sc m1 m' g2⟩
  exact ⟨h1, by rw [h4]; exact vds_once _ _, key l ih _ _ _ h5⟩

theorem good_free : ∀ (x : X) (sc : List Str) (m m' : Nat), x.good sc m m' → ∀ s ∈ x.free, s ∈ sc := X.indA fun k t ns l ih sc m m' h s hs => by
  obtain ⟨h1, h2, h3, h4, h5⟩ := h
  have key : ∀ (l : List X), (∀ x ∈ l, ∀ sc m m', x.good sc m m' → ∀ s ∈ x.free, s ∈ sc) → ∀ sc m m', X.goods l sc m m' → ∀ x ∈ l, ∀ s ∈ x.free, s ∈ sc := by
    intro l
    induction l with
    | nil => intro _ sc m m' h x hx; cases hx
    | cons x l ihl =>
      intro h sc m m' hg y hy s hs
      obtain ⟨m1, g1, g2⟩ := hg
      rcases List.mem_cons.1 hy with rfl | hy
      · exact h _ (by simp) sc m m1 g1 s hs
      · exact ihl (fun y hy => h y (by simp [hy])) sc m1 m' g2 y hy s hs
  rw [mem_free] at hs
  rcases hs with ⟨hk, rfl⟩ | ⟨_, ⟨y, hy, hsy⟩, hn⟩
  · exact h3 hk
  · rcases List.mem_append.1 (key l ih _ _ _ h5 y hy s hsy) with h | h
    · exact h
    · exact absurd h hn

theorem shp_names {k : Int} {t : Str} {m n : Nat} (h : shp k t m n) (hn : n ≤ 5) : k = 6 ∨ m ≤ 4 := by
  simp only [shp] at h; omega
theorem shp_app {t : Str} {m n : Nat} (h : shp 7 t m n) : 2 ≤ n := by
  simp [shp] at h; exact h.2.2

theorem good_apt : ∀ (x : X) (sc : List Str) (m m' : Nat), x.good sc m m' → x.apt := X.indA fun k t ns l ih sc m m' h => by
  obtain ⟨h1, h2, h3, h4, h5⟩ := h
  have key : ∀ (l : List X), (∀ x ∈ l, ∀ sc m m', x.good sc m m' → x.apt) → ∀ sc m m', X.goods l sc m m' → X.apts l := by
    intro l
    induction l with
    | nil => intro _ sc m m' h; trivial
    | cons x l ihl =>
      intro h sc m m' hg
      obtain ⟨m1, g1, g2⟩ := hg
      exact ⟨h x (by simp) sc m m1 g1, ihl (fun y hy => h y (by simp [hy])) sc m1 m' g2⟩
  refine ⟨fun h7 e => ?_, key l ih _ _ _ h5⟩
  subst h7 e
  have := shp_app h1
  simp at this

theorem good_fit : ∀ (x : X) (sc : List Str) (m m' : Nat), x.good sc m m' → m' ≤ 1048576 → x.fit := X.indA fun k t ns l ih sc m m' h hm => by
  obtain ⟨h1, h2, h3, h4, h5⟩ := h
  have key : ∀ (l : List X), (∀ x ∈ l, ∀ sc m m', x.good sc m m' → m' ≤ 1048576 → x.fit) → ∀ sc m m', X.goods l sc m m' → m' ≤ 1048576 → X.fits l ∧ m ≤ m' := by
    intro l
    induction l with
    | nil => intro _ sc m m' h _; rw [X.goods] at h; exact ⟨trivial, by omega⟩
    | cons x l ihl =>
      intro h sc m m' hg hm
      obtain ⟨m1, g1, g2⟩ := hg
      obtain ⟨a1, a2⟩ := ihl (fun y hy => h y (by simp [hy])) sc m1 m' g2 hm
      have := (good_bnd x sc m m1 g1).1
      exact ⟨⟨h x (by simp) sc m m1 g1 (by omega), a1⟩, by omega⟩
  obtain ⟨a1, a2⟩ := key l ih _ _ _ h5 hm
  exact ⟨by omega, by omega, a1⟩

end Go.Lite

/-
  A part that the maker makes: of a raw term's part; a name; a number.
-/
namespace Go.Lite
open Go Go.Proofs
set_option maxRecDepth 100000
set_option linter.unusedSimpArgs false
set_option linter.unusedVariables false

/-- a call with the counter at m comes to the term, the counter at m' -/
def Makes (f : FuncId) (args : List AV) (m : Nat) (e : X) (m' : Nat) (n : Nat) : Prop := ∀ (H : Heap) (k0 : Nat) (ty : Option Nat), HLow H → H.t.get k0 = some (.row [.int .i64 m] 0 false ty) →
  Gives (call1 P3 n f (.ptr (.new k0) 0 :: args) H) fun v H' => v = e.v ∧ H'.t.get k0 = some (.row [.int .i64 m'] 0 false ty) ∧ HKeep (only k0) H H'

theorem softV_vStrs {ns : List Str} {H : Heap} : softV (vStrs ns) H = some (vStrs ns, H) := softV_vList

def cntAt (l : List Raw) (i : Nat) : Nat := match l[i]? with | some r => r.cnt | none => 0

def MakeOk (r : Raw) : Prop := ∀ (sc : List Str) (m : Nat), sc.length ≤ m + 10 → (∀ s ∈ sc, s ≠ []) → m + 2 * r.cnt < 100 →
  ∃ e m', e.good sc m m' ∧ e.nodes ≤ r.cnt ∧ m' ≤ m + 2 * r.cnt ∧ Ev (Makes 30 [.agg r.cells, vStrs sc] m e m')

def PartOk (r : Raw) : Prop := ∀ (i : Nat) (sc : List Str) (m : Nat), i ≤ 10 → sc.length ≤ m + 10 → (∀ s ∈ sc, s ≠ []) → m + 2 * cntAt r.l i < 100 →
  ∃ e m', e.good sc m m' ∧ e.nodes ≤ cntAt r.l i ∧ m' ≤ m + 2 * cntAt r.l i ∧ Ev (Makes 46 [.agg r.cells, .int .i64 i, vStrs sc] m e m')

def tabP : List Str := [[48], [49], [50], [45, 51], [49, 48]]
theorem tabP_at {j : Nat} (h : j < 5) : [AV.str [48], .str [49], .str [50], .str [45, 51], .str [49, 48]][j]? = some (.str (tabP.getD j [])) := by
  match j, h with
  | 0, _ => rfl
  | 1, _ => rfl
  | 2, _ => rfl
  | 3, _ => rfl
  | 4, _ => rfl
theorem tabP_int {j : Nat} (h : j < 5) : tabP.getD j [] ∈ intT := by
  match j, h with
  | 0, _ => simp [tabP, intT]
  | 1, _ => simp [tabP, intT]
  | 2, _ => simp [tabP, intT]
  | 3, _ => simp [tabP, intT]
  | 4, _ => simp [tabP, intT]

theorem good_int {t : Str} (h : t ∈ intT) (sc : List Str) (m : Nat) : (X.mk 1 t [] []).good sc m m :=
  ⟨.inl ⟨rfl, h, rfl, rfl⟩, by simp, fun h => absurd h (by decide), rfl, rfl⟩
theorem good_var {t : Str} {sc : List Str} (h : t ∈ sc) (hne : t ≠ []) (m : Nat) : (varX t).good sc m m :=
  ⟨.inr (.inr (.inr (.inr (.inl ⟨rfl, hne, rfl, rfl⟩)))), by simp, fun _ => h, rfl, rfl⟩
theorem nodes_atom {k : Int} {t : Str} {ns : List Str} (h : atomK k = true) : (X.mk k t ns []).nodes = 0 := by
  rw [X.nodes, if_pos h]; rfl

set_option maxHeartbeats 1000000 in
theorem part46 (k q : Int) (l : List Raw) (hlen : l.length ≤ 9223372036854775807) (ih : ∀ r ∈ l, MakeOk r) : PartOk (.mk k q l) := fun i sc m hi10 hsc hne hm => by
  simp only [Raw.l] at hm ⊢
  by_cases hi : i < l.length
  · obtain ⟨r, hr⟩ : ∃ r, l[i]? = some r := ⟨l[i], List.getElem?_eq_getElem hi⟩
    have hca : cntAt l i = r.cnt := by rw [cntAt, hr]
    rw [hca] at hm ⊢
    obtain ⟨e, m', h1, h2, h3, h4⟩ := ih r (List.mem_of_getElem? hr) sc m hsc hne hm
    refine ⟨e, m', h1, h2, h3, Ev.succ (h4.mono fun n e4 H k0 ty low g0 => ?_)⟩
    rw [call1_code (P := P3) (sf := c46) (code46 _ _) rfl]
    refine gives_settled ?_
    have hk0 := low.lt g0
    have hlt : (i : Int) < (l.length : Int) := by omega
    have low2 := (low.push (ob := .row (Raw.mk k q l).cells 0 false (some 53))).push (ob := .row [.int .i64 0, .str [], .nils, .nils] 0 false (some 28))
    have g2 : (((H.push (.row (Raw.mk k q l).cells 0 false (some 53))).push (.row [.int .i64 0, .str [], .nils, .nils] 0 false (some 28)))).t.get k0 = some (.row [.int .i64 m] 0 false ty) := by
      rw [h_get, if_neg (by simp only [h_n]; omega), h_get, if_neg (by omega)]; exact g0
    have e5 := e4 _ k0 ty low2 g2
    obtain ⟨kr, qr, lr⟩ := r
    obtain ⟨ke, te, ne, le⟩ := e
    rw [Raw.cells_mk] at e5 low2 g2
    rw [X.v_mk] at e5
    simp only [Raw.cells_mk] at e5
    simp -implicitDefEqProofs only [c46, ↓v_lenS, SB, POp.val, AOp.val, WOp.val, Lite.bin, intBin, strBin, eqv, eqMany, eq1, AV.asBool, AV.asInt, AV.asNat, AV.asPtr, AV.asStr, resVals, ResV.val, oneOr, wants, skipped, fillAt, putAt, capOf, optNat, bnd, Nat.reduceBEq, reduceIte, Nat.reduceAdd, Nat.reduceLeDiff, Nat.reduceEqDiff, Nat.reduceSub, Nat.reduceMul, Nat.reduceDiv, SOper.again, same, sameBlk, sameCap, Nat.reduceBneDiff, s_draw2, s_pair, k_pair, asunder, SOper.into, Bool.not_false, Bool.not_true, CL, XS, softV_vStrs, Raw.cells_mk, hlt, len_vRaws, fl_vRaws, iaddr_vRaws hr, shutC_vRaws]
    refine gives_call e5 ?_
    rintro w H5 ⟨rfl, gk5, kp5⟩
    have h9 : H5.t.get (H.n + 1) = some (.row [.int .i64 0, .str [], .nils, .nils] 0 false (some 28)) := kp5.get _ _ (by rw [h_get, if_pos (by simp only [h_n])]) (only_row (by omega))
    have low5 := kp5.low low2
    simp -implicitDefEqProofs only [↓v_lenS, SB, POp.val, AOp.val, WOp.val, Lite.bin, intBin, strBin, eqv, eqMany, eq1, AV.asBool, AV.asInt, AV.asNat, AV.asPtr, AV.asStr, resVals, ResV.val, oneOr, wants, skipped, fillAt, putAt, capOf, optNat, bnd, Nat.reduceBEq, reduceIte, Nat.reduceAdd, Nat.reduceLeDiff, Nat.reduceEqDiff, Nat.reduceSub, Nat.reduceMul, Nat.reduceDiv, SOper.again, same, sameBlk, sameCap, Nat.reduceBneDiff, s_draw2, s_pair, k_pair, asunder, SOper.into, Bool.not_false, Bool.not_true, CL, XS, softV_vStrs, h9, gives_ret]
    refine ⟨_, _, rfl, rfl, ?_, (((HKeep.push low).pushed low).trans kp5).own low (by omega) (low5.lt h9)⟩
    rw [h_gput, if_neg (by omega)]; exact gk5
  · have hca : cntAt l i = 0 := by rw [cntAt, List.getElem?_eq_none (by omega)]
    rw [hca]
    have hlt : ¬ (i : Int) < (l.length : Int) := by omega
    generalize hA : IntKind.i64.wrap (q + (i : Int)) = A
    by_cases hv : sc ≠ [] ∧ within A 3 > 0
    · obtain ⟨hs, hw3⟩ := hv
      have hpos : 0 < sc.length := List.length_pos_iff.2 hs
      have hgt : (sc.length : Int) > 0 := by omega
      generalize hB : IntKind.i64.wrap (q + IntKind.i64.wrap (7 * (i : Int))) = B
      obtain ⟨j0, j1⟩ := within_range B sc.length (by omega) (by omega)
      have hj : (within B sc.length).toNat < sc.length := by omega
      obtain ⟨s, hsj⟩ : ∃ s, sc[(within B sc.length).toNat]? = some s := ⟨_, List.getElem?_eq_getElem hj⟩
      have hmem := List.mem_of_getElem? hsj
      refine ⟨varX s, m, good_var hmem (hne s hmem) m, Nat.le_of_eq (nodes_atom rfl), Nat.le_refl _, Ev.succ (((run45 A 3 (by decide)).and ((run45 B sc.length (by omega)).and (var25 s))).mono fun n hn H k0 ty low g0 => ?_)⟩
      obtain ⟨e1, e2, e3⟩ := hn
      rw [call1_code (P := P3) (sf := c46) (code46 _ _) rfl]
      refine gives_settled ?_
      have hk0 := low.lt g0
      have low2 := (low.push (ob := .row [.int .i64 k, .int .i64 q, vRaws l] 0 false (some 53))).push (ob := .row [.int .i64 0, .str [], .nils, .nils] 0 false (some 28))
      simp only [varX, X.v_mk] at e3
      simp -implicitDefEqProofs only [c46, ↓v_lenS, SB, POp.val, AOp.val, WOp.val, Lite.bin, intBin, strBin, eqv, eqMany, eq1, AV.asBool, AV.asInt, AV.asNat, AV.asPtr, AV.asStr, resVals, ResV.val, oneOr, wants, skipped, fillAt, putAt, capOf, optNat, bnd, Nat.reduceBEq, reduceIte, Nat.reduceAdd, Nat.reduceLeDiff, Nat.reduceEqDiff, Nat.reduceSub, Nat.reduceMul, Nat.reduceDiv, SOper.again, same, sameBlk, sameCap, Nat.reduceBneDiff, s_draw2, s_pair, k_pair, asunder, SOper.into, Bool.not_false, Bool.not_true, CL, XS, softV_vStrs, Raw.cells_mk, hlt, len_vRaws, fl_vRaws, shutC_vRaws, hA, hB, hgt, hw3, e1, e2, e3, j0, iaddr_vStrs hsj, gives_ret, varX]
      refine ⟨_, _, rfl, rfl, ?_, ((HKeep.push low).pushed low).own low (by omega) (by simp only [h_n]; omega)⟩
      rw [h_gput, if_neg (by omega), h_get, if_neg (by simp only [h_n]; omega), h_get, if_neg (by omega)]; exact g0
    · obtain ⟨j0, j1⟩ := within_range A 5 (by decide) (by decide)
      have hj : (within A 5).toNat < 5 := by omega
      refine ⟨.mk 1 (tabP.getD (within A 5).toNat []) [] [], m, good_int (tabP_int hj) sc m, Nat.le_of_eq (nodes_atom rfl), Nat.le_refl _, Ev.succ (((run45 A 3 (by decide)).and (run45 A 5 (by decide))).mono fun n hn H k0 ty low g0 => ?_)⟩
      obtain ⟨e1, e2⟩ := hn
      rw [call1_code (P := P3) (sf := c46) (code46 _ _) rfl]
      refine gives_settled ?_
      have hk0 := low.lt g0
      have hg := tabP_at hj
      have fin : ∀ (ob : Obj), HKeep (only k0) H ((((H.push (.row [.int .i64 k, .int .i64 q, vRaws l] 0 false (some 53))).push (.row [.int .i64 0, .str [], .nils, .nils] 0 false (some 28))).push ob)) := fun ob => ((HKeep.push low).pushed low).pushed low
      by_cases hs : sc = []
      · subst hs
        simp -implicitDefEqProofs only [c46, ↓v_lenS, SB, POp.val, AOp.val, WOp.val, Lite.bin, intBin, strBin, eqv, eqMany, eq1, AV.asBool, AV.asInt, AV.asNat, AV.asPtr, AV.asStr, resVals, ResV.val, oneOr, wants, skipped, fillAt, putAt, capOf, optNat, bnd, Nat.reduceBEq, reduceIte, Nat.reduceAdd, Nat.reduceLeDiff, Nat.reduceEqDiff, Nat.reduceSub, Nat.reduceMul, Nat.reduceDiv, SOper.again, same, sameBlk, sameCap, Nat.reduceBneDiff, s_draw2, s_pair, k_pair, asunder, SOper.into, Bool.not_false, Bool.not_true, CL, XS, softV_vStrs, Raw.cells_mk, hlt, len_vRaws, fl_vRaws, shutC_vRaws, hA, e1, e2, j0, vStrs_nil, hg, hj, Int.lt_irrefl, Nat.mul_one, gt_iff_lt, Int.ofNat_zero, Int.natCast_zero, gives_ret]
        refine ⟨_, _, rfl, rfl, ?_, (fin _).own low (by omega) (by simp only [h_n]; omega)⟩
        rw [h_gput, if_neg (by omega), h_get, if_neg (by simp only [h_n]; omega), h_get, if_neg (by simp only [h_n]; omega), h_get, if_neg (by omega)]; exact g0
      · have hw3 : ¬ within A 3 > 0 := fun h => hv ⟨hs, h⟩
        have hpos : 0 < sc.length := List.length_pos_iff.2 hs
        have hgt : (sc.length : Int) > 0 := by omega
        simp -implicitDefEqProofs only [c46, ↓v_lenS, SB, POp.val, AOp.val, WOp.val, Lite.bin, intBin, strBin, eqv, eqMany, eq1, AV.asBool, AV.asInt, AV.asNat, AV.asPtr, AV.asStr, resVals, ResV.val, oneOr, wants, skipped, fillAt, putAt, capOf, optNat, bnd, Nat.reduceBEq, reduceIte, Nat.reduceAdd, Nat.reduceLeDiff, Nat.reduceEqDiff, Nat.reduceSub, Nat.reduceMul, Nat.reduceDiv, SOper.again, same, sameBlk, sameCap, Nat.reduceBneDiff, s_draw2, s_pair, k_pair, asunder, SOper.into, Bool.not_false, Bool.not_true, CL, XS, softV_vStrs, Raw.cells_mk, hlt, len_vRaws, fl_vRaws, shutC_vRaws, hA, e1, e2, j0, hg, hj, hgt, hw3, Nat.mul_one, gives_ret]
        refine ⟨_, _, rfl, rfl, ?_, (fin _).own low (by omega) (by simp only [h_n]; omega)⟩
        rw [h_gput, if_neg (by omega), h_get, if_neg (by simp only [h_n]; omega), h_get, if_neg (by simp only [h_n]; omega), h_get, if_neg (by omega)]; exact g0

end Go.Lite

/-
  The maker, one kind of a term after the other: rows of parts; applications; primitives.
-/
namespace Go.Lite
open Go Go.Proofs
set_option maxRecDepth 100000
set_option linter.unusedSimpArgs false
set_option linter.unusedVariables false

theorem cnts_take (l : List Raw) (N : Nat) : Raw.cnts (l.take (N + 1)) = Raw.cnts (l.take N) + cntAt l N := by
  induction l generalizing N with
  | nil => simp [Raw.cnts, cntAt]
  | cons r l ih =>
    cases N with
    | zero => simp [Raw.cnts, cntAt]
    | succ N =>
      have := ih N
      simp only [List.take_succ_cons, Raw.cnts, cntAt, List.getElem?_cons_succ] at this ⊢
      omega
theorem cnts_take_le (l : List Raw) (N : Nat) : Raw.cnts (l.take N) ≤ Raw.cnts l := by
  induction l generalizing N with
  | nil => simp
  | cons r l ih =>
    cases N with
    | zero => simp [Raw.cnts]
    | succ N => have := ih N; simp only [List.take_succ_cons, Raw.cnts]; omega

theorem nodess_append (a b : List X) : X.nodess (a ++ b) = X.nodess a + X.nodess b := by
  induction a with
  | nil => simp [X.nodess]
  | cons x a ih => simp only [List.cons_append, X.nodess, ih]; omega

theorem parts_ok {r : Raw} (hp : PartOk r) (sc : List Str) (m : Nat) (hsc : sc.length ≤ m + 10) (hne : ∀ s ∈ sc, s ≠ []) (hm : m + 2 * Raw.cnts r.l < 100) : ∀ N, N ≤ 10 →
    ∃ (es : List X) (ms : Nat → Nat), es.length = N ∧ ms 0 = m ∧ m ≤ ms N ∧ X.goods es sc m (ms N) ∧ X.nodess es ≤ Raw.cnts (r.l.take N) ∧ ms N ≤ m + 2 * Raw.cnts (r.l.take N) ∧
      Ev fun n => ∀ j, j < N → ∀ e, es[j]? = some e → Makes 46 [.agg r.cells, .int .i64 j, vStrs sc] (ms j) e (ms (j + 1)) n
  | 0, _ => ⟨[], fun _ => m, rfl, rfl, Nat.le_refl _, rfl, by simp [X.nodess], by simp, Ev.of fun n j hj => by omega⟩
  | N + 1, hN => by
    obtain ⟨es, ms, h1, h2, h0, h3, h4, h5, h6⟩ := parts_ok hp sc m hsc hne hm N (by omega)
    have hc := cnts_take r.l N
    have hle := cnts_take_le r.l (N + 1)
    obtain ⟨e, m', g1, g2, g3, g4⟩ := hp N sc (ms N) (by omega) (by omega) hne (by omega)
    refine ⟨es ++ [e], fun j => if j = N + 1 then m' else ms j, by simp [h1], by simp [h2], ?_, ?_, ?_, ?_, ?_⟩
    · have := (good_bnd e sc (ms N) m' g1).1
      simp only [if_true]; omega
    · simp only [if_true]; exact goods_snoc es m h3 g1
    · rw [nodess_append, hc]; simp only [X.nodess]; omega
    · simp only [if_true]; omega
    · refine (h6.and g4).mono fun n hn j hj e' he' => ?_
      obtain ⟨n1, n2⟩ := hn
      by_cases hjN : j = N
      · subst hjN
        rw [List.getElem?_append_right (by omega), h1, Nat.sub_self] at he'
        simp only [List.getElem?_cons_zero, Option.some.injEq] at he'
        subst he'
        simp only [if_true]
        rw [if_neg (by omega)]
        exact n2
      · rw [List.getElem?_append_left (by omega)] at he'
        simp only []
        rw [if_neg (by omega), if_neg (by omega)]
        exact n1 j (by omega) e' he'

/-- the end: what lies in the row is told as content -/
theorem term_end {H H2 : Heap} {k0 : Nat} {ty : Option Nat} {k : Int} {t : Str} {ns : List Str} {es : List X} {v : AV} {b : Int} (low : HLow H) (acc : Acc H.n H2 28 4 es.length (es.flatMap X.cells) v) (kp : HKeep (only k0) H H2)
    (gk : H2.t.get k0 = some (.row [.int .i64 b] 0 false ty)) : ∃ w H'', shutV (.agg [.int .i64 k, .str t, vStrs ns, v]) H2 = some (w, H'') ∧ w = (X.mk k t ns es).v ∧ H''.t.get k0 = some (.row [.int .i64 b] 0 false ty) ∧ HKeep (only k0) H H'' := by
  obtain ⟨H3, hsh, kp3⟩ := acc.shut (d := 63) (by decide) (Still.flat X.still _)
  rw [L_vXs] at hsh
  refine ⟨_, H3, ?_, rfl, acc.row (by decide) kp3 gk, acc.keeps kp low kp3⟩
  rw [X.v_mk]
  simp -implicitDefEqProofs only [↓v_lenS, SB, POp.val, AOp.val, WOp.val, Lite.bin, intBin, strBin, eqv, eqMany, eq1, AV.asBool, AV.asInt, AV.asNat, AV.asPtr, AV.asStr, resVals, ResV.val, oneOr, wants, skipped, fillAt, putAt, capOf, optNat, bnd, Nat.reduceBEq, reduceIte, Nat.reduceAdd, Nat.reduceLeDiff, Nat.reduceEqDiff, Nat.reduceSub, Nat.reduceMul, Nat.reduceDiv, SOper.again, same, sameBlk, sameCap, Nat.reduceBneDiff, s_draw2, s_pair, k_pair, asunder, SOper.into, Bool.not_false, Bool.not_true, CL, XS, hsh]

/-- ahead of round i: a row of parts grows; the registers: e, i, the names -/
def RowInv (H : Heap) (k0 : Nat) (ty : Option Nat) (k q : Int) (l : List Raw) (es : List X) (ms : Nat → Nat) (d re ri : Nat) (ke : Int) (te : Str) (i : Nat) (fr : Fr) (H2 : Heap) : Prop :=
  ∃ v, Acc H.n H2 28 4 i ((es.take i).flatMap X.cells) v ∧ HLow H2 ∧ HKeep (only k0) H H2 ∧ H2.t.get k0 = some (.row [.int .i64 (ms i)] 0 false ty) ∧
    fr 0 = .ptr (.new k0) 0 ∧ fr 4 = .ptr (.new H.n) 0 ∧ fr 6 = .ptr (.new (H.n + 1)) 0 ∧ fr re = .ptr (.new (H.n + d)) 0 ∧ fr ri = .int .i64 i ∧
    H2.t.get H.n = some (.row [.int .i64 k, .int .i64 q, vRaws l] 0 false (some 53)) ∧ H2.t.get (H.n + 1) = some (.row [.int .i64 0, .str [], .nils, .nils] 0 false (some 28)) ∧ H2.t.get (H.n + d) = some (.row [.int .i64 ke, .str te, .nils, v] 0 false (some 28))

set_option maxHeartbeats 4000000 in
theorem loop_app {n N k0 : Nat} {ty : Option Nat} {k q : Int} {l : List Raw} {sc : List Str} {es : List X} {ms : Nat → Nat} {H : Heap} {KK : Ex → Fr → Heap → R} {Q : AV → Heap → Prop} (low : HLow H) (hk0 : k0 < H.n) (hlen : es.length = N) (hN3 : N ≤ 3) (hge : 10 ≤ n)
    (e2 : ∀ H, callN P3 n 45 [.int .i64 q, .int .i64 2] H = some (.ret (.int .i64 (within q 2)), H)) (hN : IntKind.i64.wrap (2 + within q 2) = (N : Int))
    (ee : ∀ j, j < N → ∀ e, es[j]? = some e → Makes 46 [.agg (Raw.mk k q l).cells, .int .i64 j, vStrs sc] (ms j) e (ms (j + 1)) n)
    (fr : Fr) (H2 : Heap) (h : RowInv H k0 ty k q l es ms 2 11 12 7 [] 0 fr H2 ∧ fr 2 = vStrs sc) (hend : ∀ fr H2, RowInv H k0 ty k q l es ms 2 11 12 7 [] N fr H2 → Gives (KK (.exit 3) fr H2) Q) :
    Gives (loopR (callN P3 n) n c30_l1 n fr H2 KK) Q := by
  have n0 : ¬ k0 = H.n := by omega
  have n1 : ¬ k0 = H.n + 1 := by omega
  have n2 : ¬ k0 = H.n + 2 := by omega
  refine loop_rounds N (fun i fr H2 => RowInv H k0 ty k q l es ms 2 11 12 7 [] i fr H2 ∧ fr 2 = vStrs sc) ?_ ?_ n 0 _ _ (by omega) (by omega) h
  · rintro i fr H2 K' hi ⟨⟨v, acc, low2, kp, gk, r0, r4, r6, r11, r12, gb0, gb1, gb2⟩, r2⟩ hKe hKr hK
    obtain ⟨x, hx⟩ : ∃ x, es[i]? = some x := ⟨es[i], List.getElem?_eq_getElem (by omega)⟩
    have hlt : (i : Int) < (N : Int) := by omega
    have hw := wrap_succ hi (by omega)
    have hnt : es.take (i + 1) = es.take i ++ [x] := by rw [List.take_add_one, hx]; rfl
    have e5 := ee i hi x hx H2 k0 ty low2 gk
    obtain ⟨kx, tx, nx, lx⟩ := x
    simp only [X.v_mk, Raw.cells_mk] at e5
    have fv := acc.flat
    simp -implicitDefEqProofs only [c30_l1, ↓v_lenS, SB, POp.val, AOp.val, WOp.val, Lite.bin, intBin, strBin, eqv, eqMany, eq1, AV.asBool, AV.asInt, AV.asNat, AV.asPtr, AV.asStr, resVals, ResV.val, oneOr, wants, skipped, fillAt, putAt, capOf, optNat, bnd, Nat.reduceBEq, reduceIte, Nat.reduceAdd, Nat.reduceLeDiff, Nat.reduceEqDiff, Nat.reduceSub, Nat.reduceMul, Nat.reduceDiv, SOper.again, same, sameBlk, sameCap, Nat.reduceBneDiff, s_draw2, s_pair, k_pair, asunder, SOper.into, Bool.not_false, Bool.not_true, CL, XS, softV_vStrs, len_vRaws, fl_vRaws, shutC_vRaws, r0, r2, r4, r6, r11, r12, gb0, gb1, gb2, e2, hN, hlt]
    refine gives_call e5 ?_
    rintro w H5 ⟨rfl, gk5, kp5⟩
    have low5 := kp5.low low2
    have gc0 := kp5.get _ _ gb0 (only_row (Ne.symm n0))
    have gc1 := kp5.get _ _ gb1 (only_row (Ne.symm n1))
    have gc2 := kp5.get _ _ gb2 (only_row (Ne.symm n2))
    have acc5 := acc.kept kp5 fun j hj _ => only_row (by omega)
    have kp6 := kp.trans kp5
    obtain ⟨H7, happ, acc7, kp7, low7, hn7⟩ := (acc5.push low5 (ob := .row [.int .i64 kx, .str tx, vStrs nx, vXs lx] 0 true none)).one_more (e := 28) (bs := 72) (ys := [.int .i64 kx, .str tx, vStrs nx, vXs lx]) (by simp only [h_n]; have := kp6.n; omega) low5.push (by decide) rfl four_flat (by omega)
    have hn5 := low5.lt gc2
    have car : ∀ j cs tt, H5.t.get j = some (.row cs 0 false tt) → H7.t.get j = some (.row cs 0 false tt) := fun j cs tt hg =>
      (acc5.push low5).row (by decide) kp7 (by rw [h_get, if_neg (by have := low5.lt hg; omega)]; exact hg)
    have gd2 := car _ _ _ gc2
    simp only [h_n] at happ acc7
    simp -implicitDefEqProofs only [↓v_lenS, SB, POp.val, AOp.val, WOp.val, Lite.bin, intBin, strBin, eqv, eqMany, eq1, AV.asBool, AV.asInt, AV.asNat, AV.asPtr, AV.asStr, resVals, ResV.val, oneOr, wants, skipped, fillAt, putAt, capOf, optNat, bnd, Nat.reduceBEq, reduceIte, Nat.reduceAdd, Nat.reduceLeDiff, Nat.reduceEqDiff, Nat.reduceSub, Nat.reduceMul, Nat.reduceDiv, SOper.again, same, sameBlk, sameCap, Nat.reduceBneDiff, s_draw2, s_pair, k_pair, asunder, SOper.into, Bool.not_false, Bool.not_true, CL, XS, r0, r2, r4, r6, r11, r12, gc0, gc1, gc2, fv, k_taken, happ, gd2, hw]
    refine hK _ _ ⟨⟨.slice (.new (H5.n + 1)) 0 (i + 1) (.gro 4), ?_, low7.put (low7.lt gd2), ((acc5.push low5).keeps (kp6.pushed low) low kp7).own low (by omega) (low7.lt gd2), ?_, ?_, ?_, ?_, ?_, ?_, ?_, ?_, ?_⟩, ?_⟩
    · rw [hnt, flat_snoc, X.cells_mk]; exact acc7.put (by decide) gd2
    · rw [h_gput, if_neg n2]; exact car _ _ _ gk5
    · simp -implicitDefEqProofs only [↓v_lenS, SB, POp.val, AOp.val, WOp.val, Lite.bin, intBin, strBin, eqv, eqMany, eq1, AV.asBool, AV.asInt, AV.asNat, AV.asPtr, AV.asStr, resVals, ResV.val, oneOr, wants, skipped, fillAt, putAt, capOf, optNat, bnd, Nat.reduceBEq, reduceIte, Nat.reduceAdd, Nat.reduceLeDiff, Nat.reduceEqDiff, Nat.reduceSub, Nat.reduceMul, Nat.reduceDiv, SOper.again, same, sameBlk, sameCap, Nat.reduceBneDiff, s_draw2, s_pair, k_pair, asunder, SOper.into, Bool.not_false, Bool.not_true, r0]
    · simp -implicitDefEqProofs only [↓v_lenS, SB, POp.val, AOp.val, WOp.val, Lite.bin, intBin, strBin, eqv, eqMany, eq1, AV.asBool, AV.asInt, AV.asNat, AV.asPtr, AV.asStr, resVals, ResV.val, oneOr, wants, skipped, fillAt, putAt, capOf, optNat, bnd, Nat.reduceBEq, reduceIte, Nat.reduceAdd, Nat.reduceLeDiff, Nat.reduceEqDiff, Nat.reduceSub, Nat.reduceMul, Nat.reduceDiv, SOper.again, same, sameBlk, sameCap, Nat.reduceBneDiff, s_draw2, s_pair, k_pair, asunder, SOper.into, Bool.not_false, Bool.not_true, r4]
    · simp -implicitDefEqProofs only [↓v_lenS, SB, POp.val, AOp.val, WOp.val, Lite.bin, intBin, strBin, eqv, eqMany, eq1, AV.asBool, AV.asInt, AV.asNat, AV.asPtr, AV.asStr, resVals, ResV.val, oneOr, wants, skipped, fillAt, putAt, capOf, optNat, bnd, Nat.reduceBEq, reduceIte, Nat.reduceAdd, Nat.reduceLeDiff, Nat.reduceEqDiff, Nat.reduceSub, Nat.reduceMul, Nat.reduceDiv, SOper.again, same, sameBlk, sameCap, Nat.reduceBneDiff, s_draw2, s_pair, k_pair, asunder, SOper.into, Bool.not_false, Bool.not_true, r6]
    · simp -implicitDefEqProofs only [↓v_lenS, SB, POp.val, AOp.val, WOp.val, Lite.bin, intBin, strBin, eqv, eqMany, eq1, AV.asBool, AV.asInt, AV.asNat, AV.asPtr, AV.asStr, resVals, ResV.val, oneOr, wants, skipped, fillAt, putAt, capOf, optNat, bnd, Nat.reduceBEq, reduceIte, Nat.reduceAdd, Nat.reduceLeDiff, Nat.reduceEqDiff, Nat.reduceSub, Nat.reduceMul, Nat.reduceDiv, SOper.again, same, sameBlk, sameCap, Nat.reduceBneDiff, s_draw2, s_pair, k_pair, asunder, SOper.into, Bool.not_false, Bool.not_true, r11]
    · simp -implicitDefEqProofs only [↓v_lenS, SB, POp.val, AOp.val, WOp.val, Lite.bin, intBin, strBin, eqv, eqMany, eq1, AV.asBool, AV.asInt, AV.asNat, AV.asPtr, AV.asStr, resVals, ResV.val, oneOr, wants, skipped, fillAt, putAt, capOf, optNat, bnd, Nat.reduceBEq, reduceIte, Nat.reduceAdd, Nat.reduceLeDiff, Nat.reduceEqDiff, Nat.reduceSub, Nat.reduceMul, Nat.reduceDiv, SOper.again, same, sameBlk, sameCap, Nat.reduceBneDiff, s_draw2, s_pair, k_pair, asunder, SOper.into, Bool.not_false, Bool.not_true]
    · rw [h_gput, if_neg (by omega)]; exact car _ _ _ gc0
    · rw [h_gput, if_neg (by omega)]; exact car _ _ _ gc1
    · rw [h_gput, if_pos rfl]
    · simp -implicitDefEqProofs only [↓v_lenS, SB, POp.val, AOp.val, WOp.val, Lite.bin, intBin, strBin, eqv, eqMany, eq1, AV.asBool, AV.asInt, AV.asNat, AV.asPtr, AV.asStr, resVals, ResV.val, oneOr, wants, skipped, fillAt, putAt, capOf, optNat, bnd, Nat.reduceBEq, reduceIte, Nat.reduceAdd, Nat.reduceLeDiff, Nat.reduceEqDiff, Nat.reduceSub, Nat.reduceMul, Nat.reduceDiv, SOper.again, same, sameBlk, sameCap, Nat.reduceBneDiff, s_draw2, s_pair, k_pair, asunder, SOper.into, Bool.not_false, Bool.not_true, r2]
  · rintro fr H2 K' ⟨h, r2⟩ hKe hKr
    obtain ⟨v, acc, low2, kp, gk, r0, r4, r6, r11, r12, gb0, gb1, gb2⟩ := h
    simp -implicitDefEqProofs only [c30_l1, ↓v_lenS, SB, POp.val, AOp.val, WOp.val, Lite.bin, intBin, strBin, eqv, eqMany, eq1, AV.asBool, AV.asInt, AV.asNat, AV.asPtr, AV.asStr, resVals, ResV.val, oneOr, wants, skipped, fillAt, putAt, capOf, optNat, bnd, Nat.reduceBEq, reduceIte, Nat.reduceAdd, Nat.reduceLeDiff, Nat.reduceEqDiff, Nat.reduceSub, Nat.reduceMul, Nat.reduceDiv, SOper.again, same, sameBlk, sameCap, Nat.reduceBneDiff, s_draw2, s_pair, k_pair, asunder, SOper.into, Bool.not_false, Bool.not_true, CL, XS, softV_vStrs, r0, r2, r4, r6, r11, r12, gb0, gb1, gb2, e2, hN, Int.lt_irrefl, hKe]
    refine hend _ _ ⟨v, acc, low2, kp, gk, ?_, ?_, ?_, ?_, ?_, gb0, gb1, gb2⟩ <;> simp -implicitDefEqProofs only [↓v_lenS, SB, POp.val, AOp.val, WOp.val, Lite.bin, intBin, strBin, eqv, eqMany, eq1, AV.asBool, AV.asInt, AV.asNat, AV.asPtr, AV.asStr, resVals, ResV.val, oneOr, wants, skipped, fillAt, putAt, capOf, optNat, bnd, Nat.reduceBEq, reduceIte, Nat.reduceAdd, Nat.reduceLeDiff, Nat.reduceEqDiff, Nat.reduceSub, Nat.reduceMul, Nat.reduceDiv, SOper.again, same, sameBlk, sameCap, Nat.reduceBneDiff, s_draw2, s_pair, k_pair, asunder, SOper.into, Bool.not_false, Bool.not_true, r0, r4, r6, r11, r12]

/-- behind the rows: e is the result -/
theorem row_end {H : Heap} {k0 : Nat} {ty : Option Nat} {k q : Int} {l : List Raw} {es : List X} {ms : Nat → Nat} {d re ri : Nat} {ke : Int} {te : Str} {N : Nat} {fr : Fr} {H2 : Heap} (low : HLow H) (hk0 : k0 < H.n) (hlen : es.length = N) (h : RowInv H k0 ty k q l es ms d re ri ke te N fr H2) :
    ∃ v, fr 6 = .ptr (.new (H.n + 1)) 0 ∧ fr re = .ptr (.new (H.n + d)) 0 ∧ v.flat = true ∧ H2.t.get (H.n + 1) = some (.row [.int .i64 0, .str [], .nils, .nils] 0 false (some 28)) ∧ H2.t.get (H.n + d) = some (.row [.int .i64 ke, .str te, .nils, v] 0 false (some 28)) ∧
      ∃ w H'', shutV (.agg [.int .i64 ke, .str te, .lst 0 0 true [], v]) (H2.put (H.n + 1) (.row [.int .i64 ke, .str te, .nils, v] 0 false (some 28))) = some (w, H'') ∧ w = (X.mk ke te [] es).v ∧ H''.t.get k0 = some (.row [.int .i64 (ms N)] 0 false ty) ∧ HKeep (only k0) H H'' := by
  obtain ⟨v, acc, low2, kp, gk, r0, r4, r6, r11, r12, gb0, gb1, gb2⟩ := h
  rw [List.take_of_length_le (by omega), ← hlen] at acc
  have acc3 := acc.put (k := H.n + 1) (by decide) gb1 (ob := .row [.int .i64 ke, .str te, .nils, v] 0 false (some 28))
  exact ⟨v, r6, r11, acc.flat, gb1, gb2, term_end (k := ke) (t := te) (ns := []) low acc3 (kp.own low (by omega) (low2.lt gb1)) (by rw [h_gput, if_neg (by omega)]; exact gk)⟩

set_option maxHeartbeats 4000000 in
theorem make_app (k q : Int) (l : List Raw) (hw : within k 16 = 6 ∨ within k 16 = 7 ∨ within k 16 = 8) (hp : PartOk (.mk k q l)) : MakeOk (.mk k q l) := fun sc m hsc hne hm => by
  rw [Raw.cnt] at hm ⊢
  obtain ⟨q0, q1⟩ := within_range q 2 (by decide) (by decide)
  obtain ⟨N, hN, hN2, hN3⟩ : ∃ N : Nat, IntKind.i64.wrap (2 + within q 2) = (N : Int) ∧ 2 ≤ N ∧ N ≤ 3 := ⟨2 + (within q 2).toNat, by rw [wrap64 (by omega) (by omega)]; omega, by omega, by omega⟩
  obtain ⟨es, ms, hlen, hm0, _, hgd, hnd, hms, hev⟩ := parts_ok hp sc m hsc hne (by simp only [Raw.l]; omega) N (by omega)
  simp only [Raw.l] at hnd hms
  have hle := cnts_take_le l N
  refine ⟨.mk 7 [] [] es, ms N, ⟨.inr (.inr (.inr (.inr (.inr (.inr (.inl ⟨rfl, rfl, rfl, by omega⟩)))))), by omega, fun h => absurd h (by decide), rfl, ?_⟩, ?_, by omega, ?_⟩
  · simpa using hgd
  · rw [X.nodes, if_neg (by decide)]; omega
  refine Ev.succ (((run45 k 16 (by decide)).and ((run45 q 2 (by decide)).and (hev.and (Ev.ge 10)))).mono fun n hn H k0 ty low g0 => ?_)
  obtain ⟨e1, e2, ee, hge⟩ := hn
  rw [call1_code (P := P3) (sf := c30) (code30 _ _) rfl]
  refine gives_settled ?_
  have hk0 := low.lt g0
  have n0 : ¬ k0 = H.n := by omega
  have n1 : ¬ k0 = H.n + 1 := by omega
  have n2 : ¬ k0 = H.n + 2 := by omega
  generalize hW : within k 16 = w at *
  have hwe : (w == 0) = false ∧ (w == 1) = false ∧ (w == 2) = false ∧ (w == 3) = false ∧ (w == 4) = false ∧ (w == 5) = false := by
    rcases hw with rfl | rfl | rfl <;> decide
  obtain ⟨w0, w1, w2, w3, w4, w5⟩ := hwe
  rcases hw with rfl | rfl | rfl
  all_goals simp -implicitDefEqProofs only [c30, ↓v_lenS, SB, POp.val, AOp.val, WOp.val, Lite.bin, intBin, strBin, eqv, eqMany, eq1, AV.asBool, AV.asInt, AV.asNat, AV.asPtr, AV.asStr, resVals, ResV.val, oneOr, wants, skipped, fillAt, putAt, capOf, optNat, bnd, Nat.reduceBEq, reduceIte, Nat.reduceAdd, Nat.reduceLeDiff, Nat.reduceEqDiff, Nat.reduceSub, Nat.reduceMul, Nat.reduceDiv, SOper.again, same, sameBlk, sameCap, Nat.reduceBneDiff, s_draw2, s_pair, k_pair, asunder, SOper.into, Bool.not_false, Bool.not_true, CL, XS, softV_vStrs, Raw.cells_mk, len_vRaws, fl_vRaws, shutC_vRaws, e1, w0, w1, w2, w3, w4, w5, Int.reduceBEq]
  all_goals
    refine loop_app (ty := ty) low hk0 hlen hN3 hge e2 hN ee _ _ ?_ fun fr H2 h => ?_
    · refine ⟨⟨.nils, Acc.nil, (low.push.push.push).put (by simp only [h_n]; omega), (((HKeep.push low).pushed low).pushed low).own low (by omega) (by simp only [h_n]; omega), ?_⟩, ?_⟩
      · simp -implicitDefEqProofs only [↓v_lenS, SB, POp.val, AOp.val, WOp.val, Lite.bin, intBin, strBin, eqv, eqMany, eq1, AV.asBool, AV.asInt, AV.asNat, AV.asPtr, AV.asStr, resVals, ResV.val, oneOr, wants, skipped, fillAt, putAt, capOf, optNat, bnd, Nat.reduceBEq, reduceIte, Nat.reduceAdd, Nat.reduceLeDiff, Nat.reduceEqDiff, Nat.reduceSub, Nat.reduceMul, Nat.reduceDiv, SOper.again, same, sameBlk, sameCap, Nat.reduceBneDiff, s_draw2, s_pair, k_pair, asunder, SOper.into, Bool.not_false, Bool.not_true, g0, n0, n1, n2, hm0, and_self, true_and, and_true]
        rfl
      · simp -implicitDefEqProofs only [↓v_lenS, SB, POp.val, AOp.val, WOp.val, Lite.bin, intBin, strBin, eqv, eqMany, eq1, AV.asBool, AV.asInt, AV.asNat, AV.asPtr, AV.asStr, resVals, ResV.val, oneOr, wants, skipped, fillAt, putAt, capOf, optNat, bnd, Nat.reduceBEq, reduceIte, Nat.reduceAdd, Nat.reduceLeDiff, Nat.reduceEqDiff, Nat.reduceSub, Nat.reduceMul, Nat.reduceDiv, SOper.again, same, sameBlk, sameCap, Nat.reduceBneDiff, s_draw2, s_pair, k_pair, asunder, SOper.into, Bool.not_false, Bool.not_true]
    · obtain ⟨v, r6, r11, fv, gb1, gb2, fin⟩ := row_end low hk0 hlen h
      simp -implicitDefEqProofs only [↓v_lenS, SB, POp.val, AOp.val, WOp.val, Lite.bin, intBin, strBin, eqv, eqMany, eq1, AV.asBool, AV.asInt, AV.asNat, AV.asPtr, AV.asStr, resVals, ResV.val, oneOr, wants, skipped, fillAt, putAt, capOf, optNat, bnd, Nat.reduceBEq, reduceIte, Nat.reduceAdd, Nat.reduceLeDiff, Nat.reduceEqDiff, Nat.reduceSub, Nat.reduceMul, Nat.reduceDiv, SOper.again, same, sameBlk, sameCap, Nat.reduceBneDiff, s_draw2, s_pair, k_pair, asunder, SOper.into, Bool.not_false, Bool.not_true, CL, XS, r6, r11, fv, gb1, gb2, gives_ret]
      simp -implicitDefEqProofs only [↓v_lenS, SB, POp.val, AOp.val, WOp.val, Lite.bin, intBin, strBin, eqv, eqMany, eq1, AV.asBool, AV.asInt, AV.asNat, AV.asPtr, AV.asStr, resVals, ResV.val, oneOr, wants, skipped, fillAt, putAt, capOf, optNat, bnd, Nat.reduceBEq, reduceIte, Nat.reduceAdd, Nat.reduceLeDiff, Nat.reduceEqDiff, Nat.reduceSub, Nat.reduceMul, Nat.reduceDiv, SOper.again, same, sameBlk, sameCap, Nat.reduceBneDiff, s_draw2, s_pair, k_pair, asunder, SOper.into, Bool.not_false, Bool.not_true, CL, XS] at fin
      exact fin

end Go.Lite

/-
  The maker: primitives; choices; atoms.
-/
namespace Go.Lite
open Go Go.Proofs
set_option maxRecDepth 100000
set_option linter.unusedSimpArgs false
set_option linter.unusedVariables false

def tabT : List Str := [[43], [45], [42], [113, 117, 111, 116, 105, 101, 110, 116], [114, 101, 109, 97, 105, 110, 100, 101, 114], [60], [61], [101, 113, 63], [99, 111, 110, 115], [115, 101, 113], [99, 97, 114], [99, 100, 114], [110, 117, 108, 108, 63], [112, 97, 105, 114, 63], [110, 111, 116], [105, 110, 116, 101, 103, 101, 114, 63], [115, 121, 109, 98, 111, 108, 63], [101, 114, 114, 111, 114], [99, 111, 110, 115], [43], [99, 97, 114]]
theorem tabT_all : ∀ j : Fin 21, 0 < arityX (tabT.getD j.1 []) ∧ arityX (tabT.getD j.1 []) ≤ 2 := by decide
theorem tabT_at {j : Nat} (h : j < 21) : (tabT.map AV.str)[j]? = some (.str (tabT.getD j [])) := by
  rw [List.getElem?_map, List.getElem?_eq_getElem (by simpa [tabT] using h), List.getD_eq_getElem?_getD, List.getElem?_eq_getElem (by simpa [tabT] using h)]
  rfl

set_option maxHeartbeats 4000000 in
theorem loop_prim {n N k0 : Nat} {ty : Option Nat} {k q : Int} {l : List Raw} {sc : List Str} {es : List X} {ms : Nat → Nat} {t : Str} {H : Heap} {KK : Ex → Fr → Heap → R} {Q : AV → Heap → Prop} (low : HLow H) (hk0 : k0 < H.n) (hlen : es.length = N) (hN3 : N ≤ 3) (hge : 10 ≤ n)
    (e2 : ∀ H, callN P3 n 47 [.str t] H = some (.ret (.int .i64 (N : Int)), H))
    (ee : ∀ j, j < N → ∀ e, es[j]? = some e → Makes 46 [.agg (Raw.mk k q l).cells, .int .i64 j, vStrs sc] (ms j) e (ms (j + 1)) n)
    (fr : Fr) (H2 : Heap) (h : RowInv H k0 ty k q l es ms 3 20 21 10 t 0 fr H2 ∧ fr 2 = vStrs sc) (hend : ∀ fr H2, RowInv H k0 ty k q l es ms 3 20 21 10 t N fr H2 → Gives (KK (.exit 9) fr H2) Q) :
    Gives (loopR (callN P3 n) n c30_l4 n fr H2 KK) Q := by
  have n0 : ¬ k0 = H.n := by omega
  have n1 : ¬ k0 = H.n + 1 := by omega
  have n2 : ¬ k0 = H.n + 3 := by omega
  refine loop_rounds N (fun i fr H2 => RowInv H k0 ty k q l es ms 3 20 21 10 t i fr H2 ∧ fr 2 = vStrs sc) ?_ ?_ n 0 _ _ (by omega) (by omega) h
  · rintro i fr H2 K' hi ⟨⟨v, acc, low2, kp, gk, r0, r4, r6, r11, r12, gb0, gb1, gb2⟩, r2⟩ hKe hKr hK
    obtain ⟨x, hx⟩ : ∃ x, es[i]? = some x := ⟨es[i], List.getElem?_eq_getElem (by omega)⟩
    have hlt : (i : Int) < (N : Int) := by omega
    have hw := wrap_succ hi (by omega)
    have hnt : es.take (i + 1) = es.take i ++ [x] := by rw [List.take_add_one, hx]; rfl
    have e5 := ee i hi x hx H2 k0 ty low2 gk
    obtain ⟨kx, tx, nx, lx⟩ := x
    simp only [X.v_mk, Raw.cells_mk] at e5
    have fv := acc.flat
    simp -implicitDefEqProofs only [c30_l4, ↓v_lenS, SB, POp.val, AOp.val, WOp.val, Lite.bin, intBin, strBin, eqv, eqMany, eq1, AV.asBool, AV.asInt, AV.asNat, AV.asPtr, AV.asStr, resVals, ResV.val, oneOr, wants, skipped, fillAt, putAt, capOf, optNat, bnd, Nat.reduceBEq, reduceIte, Nat.reduceAdd, Nat.reduceLeDiff, Nat.reduceEqDiff, Nat.reduceSub, Nat.reduceMul, Nat.reduceDiv, SOper.again, same, sameBlk, sameCap, Nat.reduceBneDiff, s_draw2, s_pair, k_pair, asunder, SOper.into, Bool.not_false, Bool.not_true, CL, XS, softV_vStrs, len_vRaws, fl_vRaws, shutC_vRaws, r0, r2, r4, r6, r11, r12, gb0, gb1, gb2, e2, hlt]
    refine gives_call e5 ?_
    rintro w H5 ⟨rfl, gk5, kp5⟩
    have low5 := kp5.low low2
    have gc0 := kp5.get _ _ gb0 (only_row (Ne.symm n0))
    have gc1 := kp5.get _ _ gb1 (only_row (Ne.symm n1))
    have gc2 := kp5.get _ _ gb2 (only_row (Ne.symm n2))
    have acc5 := acc.kept kp5 fun j hj _ => only_row (by omega)
    have kp6 := kp.trans kp5
    obtain ⟨H7, happ, acc7, kp7, low7, hn7⟩ := (acc5.push low5 (ob := .row [.int .i64 kx, .str tx, vStrs nx, vXs lx] 0 true none)).one_more (e := 28) (bs := 72) (ys := [.int .i64 kx, .str tx, vStrs nx, vXs lx]) (by simp only [h_n]; have := kp6.n; omega) low5.push (by decide) rfl four_flat (by omega)
    have hn5 := low5.lt gc2
    have car : ∀ j cs tt, H5.t.get j = some (.row cs 0 false tt) → H7.t.get j = some (.row cs 0 false tt) := fun j cs tt hg =>
      (acc5.push low5).row (by decide) kp7 (by rw [h_get, if_neg (by have := low5.lt hg; omega)]; exact hg)
    have gd2 := car _ _ _ gc2
    simp only [h_n] at happ acc7
    simp -implicitDefEqProofs only [↓v_lenS, SB, POp.val, AOp.val, WOp.val, Lite.bin, intBin, strBin, eqv, eqMany, eq1, AV.asBool, AV.asInt, AV.asNat, AV.asPtr, AV.asStr, resVals, ResV.val, oneOr, wants, skipped, fillAt, putAt, capOf, optNat, bnd, Nat.reduceBEq, reduceIte, Nat.reduceAdd, Nat.reduceLeDiff, Nat.reduceEqDiff, Nat.reduceSub, Nat.reduceMul, Nat.reduceDiv, SOper.again, same, sameBlk, sameCap, Nat.reduceBneDiff, s_draw2, s_pair, k_pair, asunder, SOper.into, Bool.not_false, Bool.not_true, CL, XS, r0, r2, r4, r6, r11, r12, gc0, gc1, gc2, fv, k_taken, happ, gd2, hw]
    refine hK _ _ ⟨⟨.slice (.new (H5.n + 1)) 0 (i + 1) (.gro 4), ?_, low7.put (low7.lt gd2), ((acc5.push low5).keeps (kp6.pushed low) low kp7).own low (by omega) (low7.lt gd2), ?_, ?_, ?_, ?_, ?_, ?_, ?_, ?_, ?_⟩, ?_⟩
    · rw [hnt, flat_snoc, X.cells_mk]; exact acc7.put (by decide) gd2
    · rw [h_gput, if_neg n2]; exact car _ _ _ gk5
    · simp -implicitDefEqProofs only [↓v_lenS, SB, POp.val, AOp.val, WOp.val, Lite.bin, intBin, strBin, eqv, eqMany, eq1, AV.asBool, AV.asInt, AV.asNat, AV.asPtr, AV.asStr, resVals, ResV.val, oneOr, wants, skipped, fillAt, putAt, capOf, optNat, bnd, Nat.reduceBEq, reduceIte, Nat.reduceAdd, Nat.reduceLeDiff, Nat.reduceEqDiff, Nat.reduceSub, Nat.reduceMul, Nat.reduceDiv, SOper.again, same, sameBlk, sameCap, Nat.reduceBneDiff, s_draw2, s_pair, k_pair, asunder, SOper.into, Bool.not_false, Bool.not_true, r0]
    · simp -implicitDefEqProofs only [↓v_lenS, SB, POp.val, AOp.val, WOp.val, Lite.bin, intBin, strBin, eqv, eqMany, eq1, AV.asBool, AV.asInt, AV.asNat, AV.asPtr, AV.asStr, resVals, ResV.val, oneOr, wants, skipped, fillAt, putAt, capOf, optNat, bnd, Nat.reduceBEq, reduceIte, Nat.reduceAdd, Nat.reduceLeDiff, Nat.reduceEqDiff, Nat.reduceSub, Nat.reduceMul, Nat.reduceDiv, SOper.again, same, sameBlk, sameCap, Nat.reduceBneDiff, s_draw2, s_pair, k_pair, asunder, SOper.into, Bool.not_false, Bool.not_true, r4]
    · simp -implicitDefEqProofs only [↓v_lenS, SB, POp.val, AOp.val, WOp.val, Lite.bin, intBin, strBin, eqv, eqMany, eq1, AV.asBool, AV.asInt, AV.asNat, AV.asPtr, AV.asStr, resVals, ResV.val, oneOr, wants, skipped, fillAt, putAt, capOf, optNat, bnd, Nat.reduceBEq, reduceIte, Nat.reduceAdd, Nat.reduceLeDiff, Nat.reduceEqDiff, Nat.reduceSub, Nat.reduceMul, Nat.reduceDiv, SOper.again, same, sameBlk, sameCap, Nat.reduceBneDiff, s_draw2, s_pair, k_pair, asunder, SOper.into, Bool.not_false, Bool.not_true, r6]
    · simp -implicitDefEqProofs only [↓v_lenS, SB, POp.val, AOp.val, WOp.val, Lite.bin, intBin, strBin, eqv, eqMany, eq1, AV.asBool, AV.asInt, AV.asNat, AV.asPtr, AV.asStr, resVals, ResV.val, oneOr, wants, skipped, fillAt, putAt, capOf, optNat, bnd, Nat.reduceBEq, reduceIte, Nat.reduceAdd, Nat.reduceLeDiff, Nat.reduceEqDiff, Nat.reduceSub, Nat.reduceMul, Nat.reduceDiv, SOper.again, same, sameBlk, sameCap, Nat.reduceBneDiff, s_draw2, s_pair, k_pair, asunder, SOper.into, Bool.not_false, Bool.not_true, r11]
    · simp -implicitDefEqProofs only [↓v_lenS, SB, POp.val, AOp.val, WOp.val, Lite.bin, intBin, strBin, eqv, eqMany, eq1, AV.asBool, AV.asInt, AV.asNat, AV.asPtr, AV.asStr, resVals, ResV.val, oneOr, wants, skipped, fillAt, putAt, capOf, optNat, bnd, Nat.reduceBEq, reduceIte, Nat.reduceAdd, Nat.reduceLeDiff, Nat.reduceEqDiff, Nat.reduceSub, Nat.reduceMul, Nat.reduceDiv, SOper.again, same, sameBlk, sameCap, Nat.reduceBneDiff, s_draw2, s_pair, k_pair, asunder, SOper.into, Bool.not_false, Bool.not_true]
    · rw [h_gput, if_neg (by omega)]; exact car _ _ _ gc0
    · rw [h_gput, if_neg (by omega)]; exact car _ _ _ gc1
    · rw [h_gput, if_pos rfl]
    · simp -implicitDefEqProofs only [↓v_lenS, SB, POp.val, AOp.val, WOp.val, Lite.bin, intBin, strBin, eqv, eqMany, eq1, AV.asBool, AV.asInt, AV.asNat, AV.asPtr, AV.asStr, resVals, ResV.val, oneOr, wants, skipped, fillAt, putAt, capOf, optNat, bnd, Nat.reduceBEq, reduceIte, Nat.reduceAdd, Nat.reduceLeDiff, Nat.reduceEqDiff, Nat.reduceSub, Nat.reduceMul, Nat.reduceDiv, SOper.again, same, sameBlk, sameCap, Nat.reduceBneDiff, s_draw2, s_pair, k_pair, asunder, SOper.into, Bool.not_false, Bool.not_true, r2]
  · rintro fr H2 K' ⟨h, r2⟩ hKe hKr
    obtain ⟨v, acc, low2, kp, gk, r0, r4, r6, r11, r12, gb0, gb1, gb2⟩ := h
    simp -implicitDefEqProofs only [c30_l4, ↓v_lenS, SB, POp.val, AOp.val, WOp.val, Lite.bin, intBin, strBin, eqv, eqMany, eq1, AV.asBool, AV.asInt, AV.asNat, AV.asPtr, AV.asStr, resVals, ResV.val, oneOr, wants, skipped, fillAt, putAt, capOf, optNat, bnd, Nat.reduceBEq, reduceIte, Nat.reduceAdd, Nat.reduceLeDiff, Nat.reduceEqDiff, Nat.reduceSub, Nat.reduceMul, Nat.reduceDiv, SOper.again, same, sameBlk, sameCap, Nat.reduceBneDiff, s_draw2, s_pair, k_pair, asunder, SOper.into, Bool.not_false, Bool.not_true, CL, XS, softV_vStrs, r0, r2, r4, r6, r11, r12, gb0, gb1, gb2, e2, Int.lt_irrefl, hKe]
    refine hend _ _ ⟨v, acc, low2, kp, gk, ?_, ?_, ?_, ?_, ?_, gb0, gb1, gb2⟩ <;> simp -implicitDefEqProofs only [↓v_lenS, SB, POp.val, AOp.val, WOp.val, Lite.bin, intBin, strBin, eqv, eqMany, eq1, AV.asBool, AV.asInt, AV.asNat, AV.asPtr, AV.asStr, resVals, ResV.val, oneOr, wants, skipped, fillAt, putAt, capOf, optNat, bnd, Nat.reduceBEq, reduceIte, Nat.reduceAdd, Nat.reduceLeDiff, Nat.reduceEqDiff, Nat.reduceSub, Nat.reduceMul, Nat.reduceDiv, SOper.again, same, sameBlk, sameCap, Nat.reduceBneDiff, s_draw2, s_pair, k_pair, asunder, SOper.into, Bool.not_false, Bool.not_true, r0, r4, r6, r11, r12]

set_option maxHeartbeats 4000000 in
theorem make_prim (k q : Int) (l : List Raw) (hw : 13 ≤ within k 16) (hp : PartOk (.mk k q l)) : MakeOk (.mk k q l) := fun sc m hsc hne hm => by
  rw [Raw.cnt] at hm ⊢
  obtain ⟨q0, q1⟩ := within_range q 21 (by decide) (by decide)
  obtain ⟨j, hj⟩ : ∃ j : Nat, (within q 21).toNat = j := ⟨_, rfl⟩
  have hj21 : j < 21 := by omega
  have hg := tabT_at hj21
  obtain ⟨a0, a1⟩ := tabT_all ⟨j, hj21⟩
  simp only [] at a0 a1
  generalize tabT.getD j [] = t at *
  obtain ⟨N, hN⟩ : ∃ N : Nat, arityX t = (N : Int) := ⟨(arityX t).toNat, by omega⟩
  obtain ⟨es, ms, hlen, hm0, _, hgd, hnd, hms, hev⟩ := parts_ok hp sc m hsc hne (by simp only [Raw.l]; omega) N (by omega)
  simp only [Raw.l] at hnd hms
  have hle := cnts_take_le l N
  refine ⟨.mk 10 t [] es, ms N, ⟨.inr (.inr (.inr (.inr (.inr (.inr (.inr (.inr (.inr ⟨rfl, a0, by rw [hN, hlen], rfl⟩)))))))), by omega, fun h => absurd h (by decide), rfl, ?_⟩, ?_, by omega, ?_⟩
  · simpa using hgd
  · rw [X.nodes, if_neg (by decide)]; omega
  have e47 := arity47 t
  rw [hN] at e47
  refine Ev.succ (((run45 k 16 (by decide)).and ((run45 q 21 (by decide)).and (e47.and (hev.and (Ev.ge 10))))).mono fun n hn H k0 ty low g0 => ?_)
  obtain ⟨e1, e2, e3, ee, hge⟩ := hn
  rw [call1_code (P := P3) (sf := c30) (code30 _ _) rfl]
  refine gives_settled ?_
  have hk0 := low.lt g0
  have n0 : ¬ k0 = H.n := by omega
  have n1 : ¬ k0 = H.n + 1 := by omega
  have n2 : ¬ k0 = H.n + 2 := by omega
  have n3 : ¬ k0 = H.n + 3 := by omega
  obtain ⟨u0, u1⟩ := within_range k 16 (by decide) (by decide)
  generalize hW : within k 16 = w at *
  have w0 : (w == 0) = false := by simp; omega
  have w1 : (w == 1) = false := by simp; omega
  have w2 : (w == 2) = false := by simp; omega
  have w3 : (w == 3) = false := by simp; omega
  have w4 : (w == 4) = false := by simp; omega
  have w5 : (w == 5) = false := by simp; omega
  have w6 : (w == 6) = false := by simp; omega
  have w7 : (w == 7) = false := by simp; omega
  have w8 : (w == 8) = false := by simp; omega
  have w9 : (w == 9) = false := by simp; omega
  have w10 : (w == 10) = false := by simp; omega
  have w11 : (w == 11) = false := by simp; omega
  have w12 : (w == 12) = false := by simp; omega
  have h21 : ((21 : Nat) : Int) = 21 := rfl
  simp only [tabT, List.map_cons, List.map_nil] at hg
  simp -implicitDefEqProofs only [c30, ↓v_lenS, SB, POp.val, AOp.val, WOp.val, Lite.bin, intBin, strBin, eqv, eqMany, eq1, AV.asBool, AV.asInt, AV.asNat, AV.asPtr, AV.asStr, resVals, ResV.val, oneOr, wants, skipped, fillAt, putAt, capOf, optNat, bnd, Nat.reduceBEq, reduceIte, Nat.reduceAdd, Nat.reduceLeDiff, Nat.reduceEqDiff, Nat.reduceSub, Nat.reduceMul, Nat.reduceDiv, SOper.again, same, sameBlk, sameCap, Nat.reduceBneDiff, s_draw2, s_pair, k_pair, asunder, SOper.into, Bool.not_false, Bool.not_true, CL, XS, softV_vStrs, Raw.cells_mk, len_vRaws, fl_vRaws, shutC_vRaws, e1, w0, w1, w2, w3, w4, w5, w6, w7, w8, w9, w10, w11, w12, h21, e2, q0, hj, hj21, hg, Nat.mul_one]
  refine loop_prim (ty := ty) low hk0 hlen (by omega) hge e3 ee _ _ ?_ fun fr H2 h => ?_
  · refine ⟨⟨.nils, Acc.nil, (low.push.push.push.push).put (by simp only [h_n]; omega), ((((HKeep.push low).pushed low).pushed low).pushed low).own low (by omega) (by simp only [h_n]; omega), ?_⟩, ?_⟩
    · simp -implicitDefEqProofs only [↓v_lenS, SB, POp.val, AOp.val, WOp.val, Lite.bin, intBin, strBin, eqv, eqMany, eq1, AV.asBool, AV.asInt, AV.asNat, AV.asPtr, AV.asStr, resVals, ResV.val, oneOr, wants, skipped, fillAt, putAt, capOf, optNat, bnd, Nat.reduceBEq, reduceIte, Nat.reduceAdd, Nat.reduceLeDiff, Nat.reduceEqDiff, Nat.reduceSub, Nat.reduceMul, Nat.reduceDiv, SOper.again, same, sameBlk, sameCap, Nat.reduceBneDiff, s_draw2, s_pair, k_pair, asunder, SOper.into, Bool.not_false, Bool.not_true, g0, n0, n1, n2, n3, hm0, and_self, true_and, and_true]
      rfl
    · simp -implicitDefEqProofs only [↓v_lenS, SB, POp.val, AOp.val, WOp.val, Lite.bin, intBin, strBin, eqv, eqMany, eq1, AV.asBool, AV.asInt, AV.asNat, AV.asPtr, AV.asStr, resVals, ResV.val, oneOr, wants, skipped, fillAt, putAt, capOf, optNat, bnd, Nat.reduceBEq, reduceIte, Nat.reduceAdd, Nat.reduceLeDiff, Nat.reduceEqDiff, Nat.reduceSub, Nat.reduceMul, Nat.reduceDiv, SOper.again, same, sameBlk, sameCap, Nat.reduceBneDiff, s_draw2, s_pair, k_pair, asunder, SOper.into, Bool.not_false, Bool.not_true]
  · obtain ⟨v, r6, r11, fv, gb1, gb2, fin⟩ := row_end low hk0 hlen h
    simp -implicitDefEqProofs only [↓v_lenS, SB, POp.val, AOp.val, WOp.val, Lite.bin, intBin, strBin, eqv, eqMany, eq1, AV.asBool, AV.asInt, AV.asNat, AV.asPtr, AV.asStr, resVals, ResV.val, oneOr, wants, skipped, fillAt, putAt, capOf, optNat, bnd, Nat.reduceBEq, reduceIte, Nat.reduceAdd, Nat.reduceLeDiff, Nat.reduceEqDiff, Nat.reduceSub, Nat.reduceMul, Nat.reduceDiv, SOper.again, same, sameBlk, sameCap, Nat.reduceBneDiff, s_draw2, s_pair, k_pair, asunder, SOper.into, Bool.not_false, Bool.not_true, CL, XS, r6, r11, fv, gb1, gb2, gives_ret]
    simp -implicitDefEqProofs only [↓v_lenS, SB, POp.val, AOp.val, WOp.val, Lite.bin, intBin, strBin, eqv, eqMany, eq1, AV.asBool, AV.asInt, AV.asNat, AV.asPtr, AV.asStr, resVals, ResV.val, oneOr, wants, skipped, fillAt, putAt, capOf, optNat, bnd, Nat.reduceBEq, reduceIte, Nat.reduceAdd, Nat.reduceLeDiff, Nat.reduceEqDiff, Nat.reduceSub, Nat.reduceMul, Nat.reduceDiv, SOper.again, same, sameBlk, sameCap, Nat.reduceBneDiff, s_draw2, s_pair, k_pair, asunder, SOper.into, Bool.not_false, Bool.not_true, CL, XS] at fin
    exact fin

set_option maxHeartbeats 4000000 in
theorem make_if (k q : Int) (l : List Raw) (hw : within k 16 = 9) (hp : PartOk (.mk k q l)) : MakeOk (.mk k q l) := fun sc m hsc hne hm => by
  rw [Raw.cnt] at hm ⊢
  obtain ⟨es, ms, hlen, hm0, _, hgd, hnd, hms, hev⟩ := parts_ok hp sc m hsc hne (by simp only [Raw.l]; omega) 3 (by omega)
  simp only [Raw.l] at hnd hms
  have hle := cnts_take_le l 3
  refine ⟨.mk 8 [] [] es, ms 3, ⟨.inr (.inr (.inr (.inr (.inr (.inr (.inr (.inl ⟨rfl, rfl, rfl, hlen⟩))))))), by omega, fun h => absurd h (by decide), rfl, ?_⟩, ?_, by omega, ?_⟩
  · simpa using hgd
  · rw [X.nodes, if_neg (by decide)]; omega
  refine Ev.succ (((run45 k 16 (by decide)).and (hev.and (Ev.ge 10))).mono fun n hn H k0 ty low g0 => ?_)
  obtain ⟨e1, ee, hge⟩ := hn
  rw [call1_code (P := P3) (sf := c30) (code30 _ _) rfl]
  refine gives_settled ?_
  have hk0 := low.lt g0
  have n0 : ¬ k0 = H.n := by omega
  have n1 : ¬ k0 = H.n + 1 := by omega
  rw [hw] at e1
  obtain ⟨x0, x1, x2, rfl⟩ : ∃ a b c, es = [a, b, c] := by
    match es, hlen with
    | [a, b, c], _ => exact ⟨a, b, c, rfl⟩
  have p0 := ee 0 (by omega) x0 rfl
  have p1 := ee 1 (by omega) x1 rfl
  have p2 := ee 2 (by omega) x2 rfl
  obtain ⟨k0', t0, ns0, l0⟩ := x0
  obtain ⟨k1', t1, ns1, l1⟩ := x1
  obtain ⟨k2', t2, ns2, l2⟩ := x2
  have low2 := (low.push (ob := .row [.int .i64 k, .int .i64 q, vRaws l] 0 false (some 53))).push (ob := .row [.int .i64 0, .str [], .nils, .nils] 0 false (some 28))
  have q0 := p0 _ k0 ty low2 (by rw [h_get, if_neg (by simp only [h_n]; omega), h_get, if_neg (by omega), hm0]; exact g0)
  simp only [X.v_mk, Raw.cells_mk] at q0
  have hz : ((0 : Nat) : Int) = 0 := rfl
  have hz1 : ((1 : Nat) : Int) = 1 := rfl
  have hz2 : ((2 : Nat) : Int) = 2 := rfl
  rw [hz] at q0
  simp -implicitDefEqProofs only [c30, ↓v_lenS, SB, POp.val, AOp.val, WOp.val, Lite.bin, intBin, strBin, eqv, eqMany, eq1, AV.asBool, AV.asInt, AV.asNat, AV.asPtr, AV.asStr, resVals, ResV.val, oneOr, wants, skipped, fillAt, putAt, capOf, optNat, bnd, Nat.reduceBEq, reduceIte, Nat.reduceAdd, Nat.reduceLeDiff, Nat.reduceEqDiff, Nat.reduceSub, Nat.reduceMul, Nat.reduceDiv, SOper.again, same, sameBlk, sameCap, Nat.reduceBneDiff, s_draw2, s_pair, k_pair, asunder, SOper.into, Bool.not_false, Bool.not_true, CL, XS, softV_vStrs, Raw.cells_mk, len_vRaws, fl_vRaws, shutC_vRaws, e1, Int.reduceBEq]
  refine gives_call q0 ?_
  rintro w H5 ⟨rfl, gk5, kp5⟩
  have low5 := kp5.low low2
  have gc0 : H5.t.get H.n = some (.row [.int .i64 k, .int .i64 q, vRaws l] 0 false (some 53)) := kp5.get _ _ (by rw [h_get, if_neg (by simp only [h_n]; omega), h_get, if_pos rfl]) (only_row (Ne.symm n0))
  have gc1 : H5.t.get (H.n + 1) = some (.row [.int .i64 0, .str [], .nils, .nils] 0 false (some 28)) := kp5.get _ _ (by rw [h_get, if_pos (by simp only [h_n])]) (only_row (Ne.symm n1))
  have q1 := p1 _ k0 ty low5 gk5
  simp only [X.v_mk, Raw.cells_mk] at q1
  rw [hz1] at q1
  simp -implicitDefEqProofs only [↓v_lenS, SB, POp.val, AOp.val, WOp.val, Lite.bin, intBin, strBin, eqv, eqMany, eq1, AV.asBool, AV.asInt, AV.asNat, AV.asPtr, AV.asStr, resVals, ResV.val, oneOr, wants, skipped, fillAt, putAt, capOf, optNat, bnd, Nat.reduceBEq, reduceIte, Nat.reduceAdd, Nat.reduceLeDiff, Nat.reduceEqDiff, Nat.reduceSub, Nat.reduceMul, Nat.reduceDiv, SOper.again, same, sameBlk, sameCap, Nat.reduceBneDiff, s_draw2, s_pair, k_pair, asunder, SOper.into, Bool.not_false, Bool.not_true, CL, XS, softV_vStrs, Raw.cells_mk, len_vRaws, fl_vRaws, shutC_vRaws, gc0, gc1]
  refine gives_call q1 ?_
  rintro w H6 ⟨rfl, gk6, kp6⟩
  have low6 := kp6.low low5
  have gd0 := kp6.get _ _ gc0 (only_row (Ne.symm n0))
  have gd1 := kp6.get _ _ gc1 (only_row (Ne.symm n1))
  have q2 := p2 _ k0 ty low6 gk6
  simp only [X.v_mk, Raw.cells_mk] at q2
  rw [hz2] at q2
  simp -implicitDefEqProofs only [↓v_lenS, SB, POp.val, AOp.val, WOp.val, Lite.bin, intBin, strBin, eqv, eqMany, eq1, AV.asBool, AV.asInt, AV.asNat, AV.asPtr, AV.asStr, resVals, ResV.val, oneOr, wants, skipped, fillAt, putAt, capOf, optNat, bnd, Nat.reduceBEq, reduceIte, Nat.reduceAdd, Nat.reduceLeDiff, Nat.reduceEqDiff, Nat.reduceSub, Nat.reduceMul, Nat.reduceDiv, SOper.again, same, sameBlk, sameCap, Nat.reduceBneDiff, s_draw2, s_pair, k_pair, asunder, SOper.into, Bool.not_false, Bool.not_true, CL, XS, softV_vStrs, Raw.cells_mk, len_vRaws, fl_vRaws, shutC_vRaws, gd0, gd1]
  refine gives_call q2 ?_
  rintro w H7 ⟨rfl, gk7, kp7⟩
  have low7 := kp7.low low6
  have ge1 := kp7.get _ _ gd1 (only_row (Ne.symm n1))
  have x1 : ¬ H.n + 1 = H7.n := by have := low7.lt ge1; omega
  simp -implicitDefEqProofs only [↓v_lenS, SB, POp.val, AOp.val, WOp.val, Lite.bin, intBin, strBin, eqv, eqMany, eq1, AV.asBool, AV.asInt, AV.asNat, AV.asPtr, AV.asStr, resVals, ResV.val, oneOr, wants, skipped, fillAt, putAt, capOf, optNat, bnd, Nat.reduceBEq, reduceIte, Nat.reduceAdd, Nat.reduceLeDiff, Nat.reduceEqDiff, Nat.reduceSub, Nat.reduceMul, Nat.reduceDiv, SOper.again, same, sameBlk, sameCap, Nat.reduceBneDiff, s_draw2, s_pair, k_pair, asunder, SOper.into, Bool.not_false, Bool.not_true, CL, XS, softV_vStrs, Raw.cells_mk, len_vRaws, fl_vRaws, shutC_vRaws, ge1, x1, gives_ret]
  refine ⟨_, _, rfl, ?_, ?_, (((((HKeep.push low).pushed low).trans kp5).trans kp6).trans kp7).pushed low |>.own low (by omega) (by simp only [h_n]; have := low7.lt ge1; omega)⟩
  · simp only [vXs, vList_cons, vStrs_nil, List.flatMap_cons, List.flatMap_nil, X.cells_mk, List.length_cons, List.length_nil, List.append_nil, List.cons_append, List.nil_append]
  · rw [h_gput, if_neg n1, h_get, if_neg (by have := low7.lt gk7; omega)]; exact gk7

def tabN : List Str := [[48], [49], [45, 53], [55], [49, 48, 48, 48, 48, 48, 48, 48, 48, 48, 48, 48, 48, 48, 48, 48, 48, 48, 48, 48, 48]]
theorem tabN_int : ∀ j : Fin 5, tabN.getD j.1 [] ∈ intT := by decide
theorem tabN_at {j : Nat} (h : j < 5) : (tabN.map AV.str)[j]? = some (.str (tabN.getD j [])) := by
  rw [List.getElem?_map, List.getElem?_eq_getElem (by simpa [tabN] using h), List.getD_eq_getElem?_getD, List.getElem?_eq_getElem (by simpa [tabN] using h)]
  rfl

set_option maxHeartbeats 4000000 in
theorem make_int (k q : Int) (l : List Raw) (hw : within k 16 = 0) : MakeOk (.mk k q l) := fun sc m hsc hne hm => by
  obtain ⟨q0, q1⟩ := within_range q 5 (by decide) (by decide)
  obtain ⟨j, hj⟩ : ∃ j : Nat, (within q 5).toNat = j := ⟨_, rfl⟩
  have hj5 : j < 5 := by omega
  have hg := tabN_at hj5
  have hint := tabN_int ⟨j, hj5⟩
  simp only [] at hint
  generalize tabN.getD j [] = t at *
  refine ⟨.mk 1 t [] [], m, good_int hint sc m, by rw [nodes_atom rfl]; omega, by omega, Ev.succ (((run45 k 16 (by decide)).and (run45 q 5 (by decide))).mono fun n hn H k0 ty low g0 => ?_)⟩
  obtain ⟨e1, e2⟩ := hn
  rw [call1_code (P := P3) (sf := c30) (code30 _ _) rfl]
  refine gives_settled ?_
  have hk0 := low.lt g0
  rw [hw] at e1
  simp only [tabN, List.map_cons, List.map_nil] at hg
  simp -implicitDefEqProofs only [c30, ↓v_lenS, SB, POp.val, AOp.val, WOp.val, Lite.bin, intBin, strBin, eqv, eqMany, eq1, AV.asBool, AV.asInt, AV.asNat, AV.asPtr, AV.asStr, resVals, ResV.val, oneOr, wants, skipped, fillAt, putAt, capOf, optNat, bnd, Nat.reduceBEq, reduceIte, Nat.reduceAdd, Nat.reduceLeDiff, Nat.reduceEqDiff, Nat.reduceSub, Nat.reduceMul, Nat.reduceDiv, SOper.again, same, sameBlk, sameCap, Nat.reduceBneDiff, s_draw2, s_pair, k_pair, asunder, SOper.into, Bool.not_false, Bool.not_true, CL, XS, softV_vStrs, Raw.cells_mk, len_vRaws, fl_vRaws, shutC_vRaws, e1, e2, q0, hj, hj5, hg, Nat.mul_one, vStrs_nil, vXs_nil, gives_ret]
  refine ⟨_, _, rfl, rfl, ?_, (((HKeep.push low).pushed low).pushed low).own low (by omega) (by simp only [h_n]; omega)⟩
  rw [h_gput, if_neg (by omega), h_get, if_neg (by simp only [h_n]; omega), h_get, if_neg (by simp only [h_n]; omega), h_get, if_neg (by omega)]; exact g0

def tabA : List X := [.mk 2 [35, 116] [] [], .mk 2 [35, 102] [] [], .mk 3 [] [] [], .mk 4 [115] [] []]

set_option maxHeartbeats 4000000 in
theorem make_atom (k q : Int) (l : List Raw) (hw : within k 16 = 1) : MakeOk (.mk k q l) := fun sc m hsc hne hm => by
  obtain ⟨q0, q1⟩ := within_range q 4 (by decide) (by decide)
  obtain ⟨j, hj⟩ : ∃ j : Nat, (within q 4).toNat = j := ⟨_, rfl⟩
  have hj4 : j < 4 := by omega
  have key : ∀ j, j < 4 → ∃ kx tx, atomK kx = true ∧ (X.mk kx tx [] []).good sc m m ∧ (([AV.int .i64 2, .str [35, 116], .lst 0 0 true [], .lst 0 0 true [], .int .i64 2, .str [35, 102], .lst 0 0 true [], .lst 0 0 true [], .int .i64 3, .str [], .lst 0 0 true [], .lst 0 0 true [], .int .i64 4, .str [115], .lst 0 0 true [], .lst 0 0 true []].drop (j * 4)).take 4) = [.int .i64 kx, .str tx, .lst 0 0 true [], .lst 0 0 true []] := fun j hj => by
    match j, hj with
    | 0, _ => exact ⟨2, [35, 116], rfl, ⟨.inr (.inl ⟨rfl, .inl rfl, rfl, rfl⟩), by simp, fun h => absurd h (by decide), rfl, rfl⟩, rfl⟩
    | 1, _ => exact ⟨2, [35, 102], rfl, ⟨.inr (.inl ⟨rfl, .inr rfl, rfl, rfl⟩), by simp, fun h => absurd h (by decide), rfl, rfl⟩, rfl⟩
    | 2, _ => exact ⟨3, [], rfl, ⟨.inr (.inr (.inl ⟨rfl, rfl, rfl, rfl⟩)), by simp, fun h => absurd h (by decide), rfl, rfl⟩, rfl⟩
    | 3, _ => exact ⟨4, [115], rfl, ⟨.inr (.inr (.inr (.inl ⟨rfl, by simp, rfl, rfl⟩))), by simp, fun h => absurd h (by decide), rfl, rfl⟩, rfl⟩
  obtain ⟨kx, tx, ha, hgd, hcell⟩ := key j hj4
  refine ⟨.mk kx tx [] [], m, hgd, by rw [nodes_atom ha]; omega, by omega, Ev.succ (((run45 k 16 (by decide)).and (run45 q 4 (by decide))).mono fun n hn H k0 ty low g0 => ?_)⟩
  obtain ⟨e1, e2⟩ := hn
  rw [call1_code (P := P3) (sf := c30) (code30 _ _) rfl]
  refine gives_settled ?_
  have hk0 := low.lt g0
  rw [hw] at e1
  have hlen4 : ∀ cs : List AV, cs = [AV.int .i64 kx, .str tx, .lst 0 0 true [], .lst 0 0 true []] → cs.length = 4 := fun cs h => by rw [h]; rfl
  simp -implicitDefEqProofs only [c30, ↓v_lenS, SB, POp.val, AOp.val, WOp.val, Lite.bin, intBin, strBin, eqv, eqMany, eq1, AV.asBool, AV.asInt, AV.asNat, AV.asPtr, AV.asStr, resVals, ResV.val, oneOr, wants, skipped, fillAt, putAt, capOf, optNat, bnd, Nat.reduceBEq, reduceIte, Nat.reduceAdd, Nat.reduceLeDiff, Nat.reduceEqDiff, Nat.reduceSub, Nat.reduceMul, Nat.reduceDiv, SOper.again, same, sameBlk, sameCap, Nat.reduceBneDiff, s_draw2, s_pair, k_pair, asunder, SOper.into, Bool.not_false, Bool.not_true, CL, XS, softV_vStrs, Raw.cells_mk, len_vRaws, fl_vRaws, shutC_vRaws, e1, e2, q0, hj, hj4, hcell, Int.reduceBEq, vStrs_nil, vXs_nil, gives_ret]
  refine ⟨_, _, rfl, rfl, ?_, (((HKeep.push low).pushed low).pushed low).own low (by omega) (by simp only [h_n]; omega)⟩
  rw [h_gput, if_neg (by omega), h_get, if_neg (by simp only [h_n]; omega), h_get, if_neg (by simp only [h_n]; omega), h_get, if_neg (by omega)]; exact g0

set_option maxHeartbeats 4000000 in
theorem make_var (k q : Int) (l : List Raw) (hw : within k 16 = 2 ∨ within k 16 = 3) : MakeOk (.mk k q l) := fun sc m hsc hne hm => by
  by_cases hs : sc = []
  · subst hs
    refine ⟨.mk 3 [] [] [], m, ⟨.inr (.inr (.inl ⟨rfl, rfl, rfl, rfl⟩)), by simp, fun h => absurd h (by decide), rfl, rfl⟩, by rw [nodes_atom rfl]; omega, by omega, Ev.succ ((run45 k 16 (by decide)).mono fun n e1 H k0 ty low g0 => ?_)⟩
    rw [call1_code (P := P3) (sf := c30) (code30 _ _) rfl]
    refine gives_settled ?_
    have hk0 := low.lt g0
    rcases hw with hw | hw
    all_goals
      rw [hw] at e1
      simp -implicitDefEqProofs only [c30, ↓v_lenS, SB, POp.val, AOp.val, WOp.val, Lite.bin, intBin, strBin, eqv, eqMany, eq1, AV.asBool, AV.asInt, AV.asNat, AV.asPtr, AV.asStr, resVals, ResV.val, oneOr, wants, skipped, fillAt, putAt, capOf, optNat, bnd, Nat.reduceBEq, reduceIte, Nat.reduceAdd, Nat.reduceLeDiff, Nat.reduceEqDiff, Nat.reduceSub, Nat.reduceMul, Nat.reduceDiv, SOper.again, same, sameBlk, sameCap, Nat.reduceBneDiff, s_draw2, s_pair, k_pair, asunder, SOper.into, Bool.not_false, Bool.not_true, CL, XS, softV_vStrs, Raw.cells_mk, len_vRaws, fl_vRaws, shutC_vRaws, e1, Int.reduceBEq, vStrs_nil, vXs_nil, Int.lt_irrefl, gt_iff_lt, Int.ofNat_zero, Int.natCast_zero, gives_ret]
      refine ⟨_, _, rfl, rfl, ?_, ((HKeep.push low).pushed low).own low (by omega) (by simp only [h_n]; omega)⟩
      rw [h_gput, if_neg (by omega), h_get, if_neg (by simp only [h_n]; omega), h_get, if_neg (by omega)]; exact g0
  · have hpos : 0 < sc.length := List.length_pos_iff.2 hs
    have hgt : (sc.length : Int) > 0 := by omega
    obtain ⟨j0, j1⟩ := within_range q sc.length (by omega) (by omega)
    have hj : (within q sc.length).toNat < sc.length := by omega
    obtain ⟨s, hsj⟩ : ∃ s, sc[(within q sc.length).toNat]? = some s := ⟨_, List.getElem?_eq_getElem hj⟩
    have hmem := List.mem_of_getElem? hsj
    refine ⟨varX s, m, good_var hmem (hne s hmem) m, by rw [varX, nodes_atom rfl]; omega, by omega, Ev.succ (((run45 k 16 (by decide)).and ((run45 q sc.length (by omega)).and (var25 s))).mono fun n hn H k0 ty low g0 => ?_)⟩
    obtain ⟨e1, e2, e3⟩ := hn
    rw [call1_code (P := P3) (sf := c30) (code30 _ _) rfl]
    refine gives_settled ?_
    have hk0 := low.lt g0
    simp only [varX, X.v_mk] at e3
    rcases hw with hw | hw
    all_goals
      rw [hw] at e1
      simp -implicitDefEqProofs only [c30, ↓v_lenS, SB, POp.val, AOp.val, WOp.val, Lite.bin, intBin, strBin, eqv, eqMany, eq1, AV.asBool, AV.asInt, AV.asNat, AV.asPtr, AV.asStr, resVals, ResV.val, oneOr, wants, skipped, fillAt, putAt, capOf, optNat, bnd, Nat.reduceBEq, reduceIte, Nat.reduceAdd, Nat.reduceLeDiff, Nat.reduceEqDiff, Nat.reduceSub, Nat.reduceMul, Nat.reduceDiv, SOper.again, same, sameBlk, sameCap, Nat.reduceBneDiff, s_draw2, s_pair, k_pair, asunder, SOper.into, Bool.not_false, Bool.not_true, CL, XS, softV_vStrs, Raw.cells_mk, len_vRaws, fl_vRaws, shutC_vRaws, e1, e2, e3, j0, hgt, iaddr_vStrs hsj, Int.reduceBEq, varX, gives_ret]
      refine ⟨_, _, rfl, rfl, ?_, ((HKeep.push low).pushed low).own low (by omega) (by simp only [h_n]; omega)⟩
      rw [h_gput, if_neg (by omega), h_get, if_neg (by simp only [h_n]; omega), h_get, if_neg (by omega)]; exact g0

end Go.Lite

/-
  The maker: names that are bound; functions.
-/
namespace Go.Lite
open Go Go.Proofs
set_option maxRecDepth 100000
set_option linter.unusedSimpArgs false
set_option linter.unusedVariables false

theorem NamesAt.one_more {N : Nat} {H : Heap} {ns : List Str} {u : AV} (h : NamesAt N H ns u) (hN : N ≤ H.n) (low : HLow H) (hb : ns.length ≤ 1048576) (s : Str) :
    ∃ H', appendOf 9 1 16 H u (1, [.str s]) = some (.slice (.new H.n) 0 (ns.length + 1) (.gro 1), H') ∧ Acc N H' 9 1 (ns.length + 1) ((ns ++ [s]).flatMap str1) (.slice (.new H.n) 0 (ns.length + 1) (.gro 1)) ∧ HKeep (blk u) H H' ∧ HLow H' ∧ H'.n = H.n + 1 := by
  rcases h with ⟨rfl, rfl⟩ | h
  · refine ⟨H.push (.row [.str s] 1 false (some 9)), ?_, .inr ⟨by omega, rfl, H.n, rfl, hN, by rw [h_get, if_pos rfl]; rfl⟩, HKeep.push low, low.push, h_n⟩
    unfold appendOf
    rw [if_neg (by simp [fl_str])]
    simp only []
    rw [if_neg (by omega), if_pos ⟨.inr trivial, trivial, by simp, by simp⟩]
    rfl
  · obtain ⟨H', h1, h2, h3, h4, h5⟩ := h.one_more (bs := 16) (ys := [.str s]) hN low (by decide) rfl rfl (by omega)
    exact ⟨H', h1, by rw [flat_snoc]; exact h2, h3, h4, h5⟩

/-- it is told as content, by a call that it is handed to -/
theorem Acc.soft {N : Nat} {H : Heap} {ns : List Str} {u : AV} (h : Acc N H 9 1 ns.length (ns.flatMap str1) u) : ∃ H', softV u H = some (vStrs ns, H') ∧ HKeep (blk u) H H' := by
  obtain ⟨H', h1, h2⟩ := h.shutV (by decide) (Still.flat str1_still _)
  exact ⟨H', softV_some h1, h2⟩

/-- ahead of round i: names are bound; the registers: e, the names that are there, i -/
def NamInv (H : Heap) (k0 : Nat) (ty : Option Nat) (k q : Int) (l : List Raw) (sc : List Str) (m : Nat) (re ru ri : Nat) (ke : Int) (i : Nat) (fr : Fr) (H2 : Heap) : Prop :=
  ∃ v u, Acc H.n H2 9 1 i ((vds m i).flatMap str1) v ∧ NamesAt H.n H2 (sc ++ vds m i) u ∧ Apart v u ∧ HLow H2 ∧ HKeep (only k0) H H2 ∧ H2.t.get k0 = some (.row [.int .i64 (m + i : Nat)] 0 false ty) ∧
    fr 0 = .ptr (.new k0) 0 ∧ fr 4 = .ptr (.new H.n) 0 ∧ fr 6 = .ptr (.new (H.n + 1)) 0 ∧ fr re = .ptr (.new (H.n + 2)) 0 ∧ fr ru = u ∧ fr ri = .int .i64 i ∧
    H2.t.get H.n = some (.row [.int .i64 k, .int .i64 q, vRaws l] 0 false (some 53)) ∧ H2.t.get (H.n + 1) = some (.row [.int .i64 0, .str [], .nils, .nils] 0 false (some 28)) ∧ H2.t.get (H.n + 2) = some (.row [.int .i64 ke, .str [], v, .nils] 0 false (some 28))

theorem vds_snoc (m i : Nat) : vds m (i + 1) = vds m i ++ [vdot (m + i + 1)] := by rw [vds_add, vds_one]

set_option maxHeartbeats 4000000 in
theorem loop_lam {n N k0 : Nat} {ty : Option Nat} {k q : Int} {l : List Raw} {sc : List Str} {m : Nat} {H : Heap} {KK : Ex → Fr → Heap → R} {Q : AV → Heap → Prop} (low : HLow H) (hk0 : k0 < H.n) (hN3 : N ≤ 3) (hge : 10 ≤ n) (hsc : sc.length ≤ m + 10) (hm : m + N < 100)
    (e2 : ∀ H, callN P3 n 45 [.int .i64 q, .int .i64 2] H = some (.ret (.int .i64 (within q 2)), H)) (hN : (N : Int) = within q 2 + 1)
    (en : ∀ b ∈ List.range 100, b + 1 < 100 → ∀ (H : Heap) (k0 : Nat) (ty : Option Nat), HLow H → H.t.get k0 = some (.row [.int .i64 b] 0 false ty) → Gives (call1 P3 n 31 [.ptr (.new k0) 0] H) fun v H' => v = .str (vdot (b + 1)) ∧ H'.t.get k0 = some (.row [.int .i64 (b + 1 : Nat)] 0 false ty) ∧ HKeep (only k0) H H')
    (fr : Fr) (H2 : Heap) (h : NamInv H k0 ty k q l sc m 7 8 9 6 0 fr H2) (hend : ∀ fr H2, NamInv H k0 ty k q l sc m 7 8 9 6 N fr H2 → Gives (KK (.exit 1) fr H2) Q) :
    Gives (loopR (callN P3 n) n c30_l0 n fr H2 KK) Q := by
  have n0 : ¬ k0 = H.n := by omega
  have n1 : ¬ k0 = H.n + 1 := by omega
  have n2 : ¬ k0 = H.n + 2 := by omega
  refine loop_rounds N (fun i fr H2 => NamInv H k0 ty k q l sc m 7 8 9 6 i fr H2) ?_ ?_ n 0 _ _ (by omega) (by omega) h
  · rintro i fr H2 K' hi ⟨v, u, accv, accu, hap, low2, kp, gk, r0, r4, r6, re, ru, ri, gb0, gb1, gb2⟩ hKe hKr hK
    have hlt : (i : Int) ≤ within q 2 := by omega
    have hw := wrap_succ hi (by omega)
    have e5 := en (m + i) (List.mem_range.2 (by omega)) (by omega) H2 k0 ty low2 gk
    have fv := accv.flat
    have fu := accu.flat
    simp -implicitDefEqProofs only [c30_l0, ↓v_lenS, SB, POp.val, AOp.val, WOp.val, Lite.bin, intBin, strBin, eqv, eqMany, eq1, AV.asBool, AV.asInt, AV.asNat, AV.asPtr, AV.asStr, resVals, ResV.val, oneOr, wants, skipped, fillAt, putAt, capOf, optNat, bnd, Nat.reduceBEq, reduceIte, Nat.reduceAdd, Nat.reduceLeDiff, Nat.reduceEqDiff, Nat.reduceSub, Nat.reduceMul, Nat.reduceDiv, SOper.again, same, sameBlk, sameCap, Nat.reduceBneDiff, s_draw2, s_pair, k_pair, asunder, SOper.into, Bool.not_false, Bool.not_true, CL, XS, softV_vStrs, len_vRaws, fl_vRaws, shutC_vRaws, r0, r4, r6, re, ru, ri, gb0, gb1, gb2, e2, hlt]
    refine gives_call e5 ?_
    rintro w H5 ⟨rfl, gk5, kp5⟩
    have low5 := kp5.low low2
    have gc0 := kp5.get _ _ gb0 (only_row (Ne.symm n0))
    have gc1 := kp5.get _ _ gb1 (only_row (Ne.symm n1))
    have gc2 := kp5.get _ _ gb2 (only_row (Ne.symm n2))
    have accv5 := accv.kept kp5 fun j hj _ => only_row (by omega)
    have accu5 := accu.kept kp5 fun j o hj _ => only_row (by omega)
    have kp6 := kp.trans kp5
    have hn5 := low5.lt gc2
    have hsl : (sc ++ vds m i).length = sc.length + i := by rw [List.length_append, vds_len]
    generalize hs : vdot (m + i + 1) = s at *
    have hlow5 := low5.push (ob := .row [.str s] 0 true none)
    obtain ⟨H7, happ, acc7, kp7, low7, hn7⟩ := (accv5.push low5 (ob := .row [.str s] 0 true none)).one_more (e := 9) (bs := 16) (ys := [.str s]) (by simp only [h_n]; have := kp6.n; omega) hlow5 (by decide) rfl rfl (by omega)
    have accu5' := accu5.kept (HKeep.push low5 (X := fun _ _ => False) (ob := .row [.str s] 0 true none)) fun j o _ _ h => h
    have accu7 := accu5'.kept kp7 fun j o hj hb hx => by
      obtain ⟨o1, n1, c1, e1⟩ := hb
      obtain ⟨o2, n2, c2, e2⟩ := hx
      exact hap _ _ _ _ _ _ _ _ e2 e1 rfl
    have kp8 := (accv5.push low5 (ob := .row [.str s] 0 true none)).keeps (kp6.pushed low (ob := .row [.str s] 0 true none)) low kp7
    have car7 : ∀ j cs tt, H5.t.get j = some (.row cs 0 false tt) → H7.t.get j = some (.row cs 0 false tt) := fun j cs tt hg =>
      (accv5.push low5).row (by decide) kp7 (by rw [h_get, if_neg (by have := low5.lt hg; omega)]; exact hg)
    have lowA := low7.push (ob := .row [.str s] 0 true none)
    have accuA := accu7.kept (HKeep.push low7 (X := fun _ _ => False) (ob := .row [.str s] 0 true none)) fun j o _ _ h => h
    obtain ⟨HC, happ2, accC, kpC, lowC, hnC⟩ := accuA.one_more (by simp only [h_n]; have := kp8.n; omega) lowA (by omega) s
    rw [hsl] at happ2 accC
    have accvA := acc7.push low7 (ob := .row [.str s] 0 true none)
    have hapA := accuA.apart_fresh
    have accvC := accvA.keep (H' := HC) fun j o hb hj => by
      rw [hj]
      refine kpC.get j _ hj ?_
      rintro ⟨o1, n1, c1, e1⟩
      obtain ⟨o2, n2, c2, e2⟩ := hb
      exact (accu5'.apart_fresh hlow5 (Nat.le_refl _)) _ _ _ _ _ _ _ _ e2 e1 rfl
    have hapC : Apart (.slice (.new (H5.push (.row [.str s] 0 true none)).n) 0 (i + 1) (.gro 1)) (.slice (.new (H7.push (.row [.str s] 0 true none)).n) 0 (sc.length + i + 1) (.gro 1)) := (accvA.fresh lowA (Nat.le_refl _)).symm
    have kpD : HKeep (only k0) H HC := ⟨Nat.le_trans (kp8.pushed low (ob := .row [.str s] 0 true none)).n kpC.n, fun j o hj hx => kpC.get j o ((kp8.pushed low (ob := .row [.str s] 0 true none)).get j o hj hx) (fun ⟨o1, n1, c1, e1⟩ => by
      have hjl := low j o hj
      rcases accuA with ⟨_, h⟩ | h
      · rw [e1] at h; cases h
      · have := (h.below lowA e1).1; omega), fun l => lowC⟩
    have car : ∀ j cs tt, H5.t.get j = some (.row cs 0 false tt) → HC.t.get j = some (.row cs 0 false tt) := fun j cs tt hg => by
      have h7 := car7 j cs tt hg
      refine kpC.get j _ (by rw [h_get, if_neg (by have := low7.lt h7; omega)]; exact h7) ?_
      rintro ⟨o1, n1, c1, e1⟩
      rcases accuA with ⟨_, h⟩ | ⟨_, _, h⟩ | ⟨_, _, kk, h, _, h6⟩
      · rw [e1] at h; cases h
      · rw [e1] at h; cases h
      · rw [e1] at h
        simp only [AV.slice.injEq, Blk.new.injEq] at h
        rw [← h.1, h_get, if_neg (by have := low7.lt h7; omega), h7] at h6
        simp at h6
    have gd2 := car _ _ _ gc2
    simp only [h_n] at happ happ2 acc7 accC accvC hapC
    simp -implicitDefEqProofs only [↓v_lenS, SB, POp.val, AOp.val, WOp.val, Lite.bin, intBin, strBin, eqv, eqMany, eq1, AV.asBool, AV.asInt, AV.asNat, AV.asPtr, AV.asStr, resVals, ResV.val, oneOr, wants, skipped, fillAt, putAt, capOf, optNat, bnd, Nat.reduceBEq, reduceIte, Nat.reduceAdd, Nat.reduceLeDiff, Nat.reduceEqDiff, Nat.reduceSub, Nat.reduceMul, Nat.reduceDiv, SOper.again, same, sameBlk, sameCap, Nat.reduceBneDiff, s_draw2, s_pair, k_pair, asunder, SOper.into, Bool.not_false, Bool.not_true, CL, XS, r0, r4, r6, re, ru, ri, gc0, gc1, gc2, fv, fu, k_taken, happ, happ2, gd2, hw]
    refine hK _ _ ⟨_, _, ?_, ?_, hapC, lowC.put (lowC.lt gd2), kpD.own low (by omega) (lowC.lt gd2), ?_, ?_, ?_, ?_, ?_, ?_, ?_, ?_, ?_, ?_⟩
    · rw [vds_snoc, flat_snoc, hs]; exact accvC.put (by decide) gd2
    · rw [vds_snoc, ← List.append_assoc, hs]
      refine .inr ?_
      rw [List.length_append, hsl]
      exact accC.put (by decide) gd2
    · rw [h_gput, if_neg n2]; exact car _ _ _ gk5
    · simp -implicitDefEqProofs only [↓v_lenS, SB, POp.val, AOp.val, WOp.val, Lite.bin, intBin, strBin, eqv, eqMany, eq1, AV.asBool, AV.asInt, AV.asNat, AV.asPtr, AV.asStr, resVals, ResV.val, oneOr, wants, skipped, fillAt, putAt, capOf, optNat, bnd, Nat.reduceBEq, reduceIte, Nat.reduceAdd, Nat.reduceLeDiff, Nat.reduceEqDiff, Nat.reduceSub, Nat.reduceMul, Nat.reduceDiv, SOper.again, same, sameBlk, sameCap, Nat.reduceBneDiff, s_draw2, s_pair, k_pair, asunder, SOper.into, Bool.not_false, Bool.not_true, r0]
    · simp -implicitDefEqProofs only [↓v_lenS, SB, POp.val, AOp.val, WOp.val, Lite.bin, intBin, strBin, eqv, eqMany, eq1, AV.asBool, AV.asInt, AV.asNat, AV.asPtr, AV.asStr, resVals, ResV.val, oneOr, wants, skipped, fillAt, putAt, capOf, optNat, bnd, Nat.reduceBEq, reduceIte, Nat.reduceAdd, Nat.reduceLeDiff, Nat.reduceEqDiff, Nat.reduceSub, Nat.reduceMul, Nat.reduceDiv, SOper.again, same, sameBlk, sameCap, Nat.reduceBneDiff, s_draw2, s_pair, k_pair, asunder, SOper.into, Bool.not_false, Bool.not_true, r4]
    · simp -implicitDefEqProofs only [↓v_lenS, SB, POp.val, AOp.val, WOp.val, Lite.bin, intBin, strBin, eqv, eqMany, eq1, AV.asBool, AV.asInt, AV.asNat, AV.asPtr, AV.asStr, resVals, ResV.val, oneOr, wants, skipped, fillAt, putAt, capOf, optNat, bnd, Nat.reduceBEq, reduceIte, Nat.reduceAdd, Nat.reduceLeDiff, Nat.reduceEqDiff, Nat.reduceSub, Nat.reduceMul, Nat.reduceDiv, SOper.again, same, sameBlk, sameCap, Nat.reduceBneDiff, s_draw2, s_pair, k_pair, asunder, SOper.into, Bool.not_false, Bool.not_true, r6]
    · simp -implicitDefEqProofs only [↓v_lenS, SB, POp.val, AOp.val, WOp.val, Lite.bin, intBin, strBin, eqv, eqMany, eq1, AV.asBool, AV.asInt, AV.asNat, AV.asPtr, AV.asStr, resVals, ResV.val, oneOr, wants, skipped, fillAt, putAt, capOf, optNat, bnd, Nat.reduceBEq, reduceIte, Nat.reduceAdd, Nat.reduceLeDiff, Nat.reduceEqDiff, Nat.reduceSub, Nat.reduceMul, Nat.reduceDiv, SOper.again, same, sameBlk, sameCap, Nat.reduceBneDiff, s_draw2, s_pair, k_pair, asunder, SOper.into, Bool.not_false, Bool.not_true, re]
    · simp -implicitDefEqProofs only [↓v_lenS, SB, POp.val, AOp.val, WOp.val, Lite.bin, intBin, strBin, eqv, eqMany, eq1, AV.asBool, AV.asInt, AV.asNat, AV.asPtr, AV.asStr, resVals, ResV.val, oneOr, wants, skipped, fillAt, putAt, capOf, optNat, bnd, Nat.reduceBEq, reduceIte, Nat.reduceAdd, Nat.reduceLeDiff, Nat.reduceEqDiff, Nat.reduceSub, Nat.reduceMul, Nat.reduceDiv, SOper.again, same, sameBlk, sameCap, Nat.reduceBneDiff, s_draw2, s_pair, k_pair, asunder, SOper.into, Bool.not_false, Bool.not_true]
    · simp -implicitDefEqProofs only [↓v_lenS, SB, POp.val, AOp.val, WOp.val, Lite.bin, intBin, strBin, eqv, eqMany, eq1, AV.asBool, AV.asInt, AV.asNat, AV.asPtr, AV.asStr, resVals, ResV.val, oneOr, wants, skipped, fillAt, putAt, capOf, optNat, bnd, Nat.reduceBEq, reduceIte, Nat.reduceAdd, Nat.reduceLeDiff, Nat.reduceEqDiff, Nat.reduceSub, Nat.reduceMul, Nat.reduceDiv, SOper.again, same, sameBlk, sameCap, Nat.reduceBneDiff, s_draw2, s_pair, k_pair, asunder, SOper.into, Bool.not_false, Bool.not_true]
    · rw [h_gput, if_neg (by omega)]; exact car _ _ _ gc0
    · rw [h_gput, if_neg (by omega)]; exact car _ _ _ gc1
    · rw [h_gput, if_pos rfl]
  · rintro fr H2 K' h hKe hKr
    obtain ⟨v, u, accv, accu, hap, low2, kp, gk, r0, r4, r6, re, ru, ri, gb0, gb1, gb2⟩ := h
    have hlt : ¬ (N : Int) ≤ within q 2 := by omega
    simp -implicitDefEqProofs only [c30_l0, ↓v_lenS, SB, POp.val, AOp.val, WOp.val, Lite.bin, intBin, strBin, eqv, eqMany, eq1, AV.asBool, AV.asInt, AV.asNat, AV.asPtr, AV.asStr, resVals, ResV.val, oneOr, wants, skipped, fillAt, putAt, capOf, optNat, bnd, Nat.reduceBEq, reduceIte, Nat.reduceAdd, Nat.reduceLeDiff, Nat.reduceEqDiff, Nat.reduceSub, Nat.reduceMul, Nat.reduceDiv, SOper.again, same, sameBlk, sameCap, Nat.reduceBneDiff, s_draw2, s_pair, k_pair, asunder, SOper.into, Bool.not_false, Bool.not_true, CL, XS, softV_vStrs, r0, r4, r6, re, ru, ri, gb0, gb1, gb2, e2, hlt, hKe]
    refine hend _ _ ⟨v, u, accv, accu, hap, low2, kp, gk, ?_, ?_, ?_, ?_, ?_, ?_, gb0, gb1, gb2⟩ <;> simp -implicitDefEqProofs only [↓v_lenS, SB, POp.val, AOp.val, WOp.val, Lite.bin, intBin, strBin, eqv, eqMany, eq1, AV.asBool, AV.asInt, AV.asNat, AV.asPtr, AV.asStr, resVals, ResV.val, oneOr, wants, skipped, fillAt, putAt, capOf, optNat, bnd, Nat.reduceBEq, reduceIte, Nat.reduceAdd, Nat.reduceLeDiff, Nat.reduceEqDiff, Nat.reduceSub, Nat.reduceMul, Nat.reduceDiv, SOper.again, same, sameBlk, sameCap, Nat.reduceBneDiff, s_draw2, s_pair, k_pair, asunder, SOper.into, Bool.not_false, Bool.not_true, r0, r4, r6, re, ru, ri]

end Go.Lite

/-
  The maker: functions.
-/
namespace Go.Lite
open Go Go.Proofs
set_option maxRecDepth 100000
set_option linter.unusedSimpArgs false
set_option linter.unusedVariables false

theorem name31_all : Ev fun n => ∀ b ∈ List.range 100, b + 1 < 100 → ∀ (H : Heap) (k0 : Nat) (ty : Option Nat), HLow H → H.t.get k0 = some (.row [.int .i64 b] 0 false ty) →
    Gives (call1 P3 n 31 [.ptr (.new k0) 0] H) fun v H' => v = .str (vdot (b + 1)) ∧ H'.t.get k0 = some (.row [.int .i64 (b + 1 : Nat)] 0 false ty) ∧ HKeep (only k0) H H' := by
  refine Ev.all _ fun b hb => ?_
  by_cases h : b + 1 < 100
  · exact (name31 b h).mono fun n hn _ => hn
  · exact Ev.of fun n h' => absurd h' h

theorem NamesAt.acc {N : Nat} {H : Heap} {ns : List Str} {u : AV} (h : NamesAt N H ns u) (hne : ns ≠ []) : Acc N H 9 1 ns.length (ns.flatMap str1) u := by
  rcases h with ⟨h, _⟩ | h
  · exact absurd h hne
  · exact h

theorem Acc.slice {N : Nat} {H : Heap} {e es n : Nat} {cells : List AV} {v : AV} (h : Acc N H e es n cells v) (hn : n ≠ 0) : ∃ k, v = .slice (.new k) 0 n (.gro es) ∧ N ≤ k ∧ H.t.get k = some (.row cells es false (some e)) := by
  rcases h with ⟨h, _⟩ | ⟨_, _, h⟩
  · exact absurd h hn
  · exact h

theorem range_names {m N : Nat} {ns sc : List Str} (h : ns = vds m N) : ∀ s ∈ sc ++ ns, (∀ s ∈ sc, s ≠ []) → s ≠ [] := fun s hs hne => by
  rcases List.mem_append.1 hs with h1 | h1
  · exact hne s h1
  · subst h
    obtain ⟨j, rfl⟩ := mem_vds h1
    exact vdot_ne j

set_option maxHeartbeats 4000000 in
theorem make_lam (k q : Int) (l : List Raw) (hw : within k 16 = 4 ∨ within k 16 = 5) (hp : PartOk (.mk k q l)) : MakeOk (.mk k q l) := fun sc m hsc hne hm => by
  rw [Raw.cnt] at hm ⊢
  obtain ⟨q0, q1⟩ := within_range q 2 (by decide) (by decide)
  obtain ⟨N, hN, hN1, hN2⟩ : ∃ N : Nat, (N : Int) = within q 2 + 1 ∧ 1 ≤ N ∧ N ≤ 2 := ⟨1 + (within q 2).toNat, by omega, by omega, by omega⟩
  have hlen2 : (sc ++ vds m N).length = sc.length + N := by rw [List.length_append, vds_len]
  have hne2 : ∀ s ∈ sc ++ vds m N, s ≠ [] := fun s hs => range_names rfl s hs hne
  have hc0 : cntAt l 0 ≤ Raw.cnts l := by
    have h1 : Raw.cnts (l.take 1) = Raw.cnts (l.take 0) + cntAt l 0 := cnts_take l 0
    have h2 := cnts_take_le l 1
    rw [List.take_zero, Raw.cnts] at h1
    omega
  obtain ⟨x, m', g1, g2, g3, g4⟩ := hp 0 (sc ++ vds m N) (m + N) (by omega) (by omega) hne2 (by simp only [Raw.l]; omega)
  simp only [Raw.l] at g2 g3
  refine ⟨.mk 6 [] (vds m N) [x], m', ⟨.inr (.inr (.inr (.inr (.inr (.inl ⟨rfl, rfl, by rw [vds_len]; omega, rfl⟩))))), by simp, fun h => absurd h (by decide), by rw [vds_len], ?_⟩, ?_, by omega, ?_⟩
  · rw [vds_len]; exact ⟨m', g1, rfl⟩
  · rw [X.nodes, if_neg (by decide)]; simp only [X.nodess]; omega
  refine Ev.succ (((run45 k 16 (by decide)).and ((run45 q 2 (by decide)).and (name31_all.and (g4.and (Ev.ge 10))))).mono fun n hn H k0 ty low g0 => ?_)
  obtain ⟨e1, e2, en, e4, hge⟩ := hn
  rw [call1_code (P := P3) (sf := c30) (code30 _ _) rfl]
  refine gives_settled ?_
  have hk0 := low.lt g0
  have n0 : ¬ k0 = H.n := by omega
  have n1 : ¬ k0 = H.n + 1 := by omega
  have n2 : ¬ k0 = H.n + 2 := by omega
  have n3 : ¬ k0 = H.n + 3 := by omega
  -- the names that are there, in a row of their own
  have low3 := (((low.push (ob := .row [.int .i64 k, .int .i64 q, vRaws l] 0 false (some 53))).push (ob := .row [.int .i64 0, .str [], .nils, .nils] 0 false (some 28))).push (ob := .row [.int .i64 0, .str [], .nils, .nils] 0 false (some 28))).put (j := H.n + 2) (by simp only [h_n]; omega) (ob := .row [.int .i64 6, .str [], .nils, .nils] 0 false (some 28))
  have low4 := low3.push (ob := .row [] 0 true none)
  obtain ⟨u, G1, happ, accu, lowG, hnG, hG, kpG⟩ := names_app low4 sc (by omega)
  simp only [h_n, h_nput] at hnG hG accu
  have hGg : ∀ j, j < H.n + 1 + 1 + 1 + 1 → G1.t.get j = _ := hG
  have fu := accu.flat
  generalize hW : within k 16 = w at *
  have hwe : (w == 0) = false ∧ (w == 1) = false ∧ (w == 2) = false ∧ (w == 3) = false := by
    rcases hw with rfl | rfl <;> decide
  obtain ⟨w0, w1, w2, w3⟩ := hwe
  rcases hw with rfl | rfl
  all_goals
    simp -implicitDefEqProofs only [c30, ↓v_lenS, SB, POp.val, AOp.val, WOp.val, Lite.bin, intBin, strBin, eqv, eqMany, eq1, AV.asBool, AV.asInt, AV.asNat, AV.asPtr, AV.asStr, resVals, ResV.val, oneOr, wants, skipped, fillAt, putAt, capOf, optNat, bnd, Nat.reduceBEq, reduceIte, Nat.reduceAdd, Nat.reduceLeDiff, Nat.reduceEqDiff, Nat.reduceSub, Nat.reduceMul, Nat.reduceDiv, SOper.again, same, sameBlk, sameCap, Nat.reduceBneDiff, s_draw2, s_pair, k_pair, asunder, SOper.into, Bool.not_false, Bool.not_true, CL, XS, softV_vStrs, Raw.cells_mk, len_vRaws, fl_vRaws, shutC_vRaws, e1, w0, w1, w2, w3, Int.reduceBEq, taken_vStrs, happ]
    refine loop_lam (ty := ty) (k := k) (q := q) (l := l) (sc := sc) (m := m) low hk0 (by omega) hge (by omega) (by omega) e2 hN en _ _ ?_ fun fr H2 h => ?_
    · refine ⟨.nils, u, Acc.nil, ?_, Apart.nils, lowG, ?_, ?_⟩
      · have hv0 : vds m 0 = [] := rfl
        rw [hv0, List.append_nil]
        exact accu.weak (by omega)
      · exact ((((HKeep.push low).pushed low).pushed low).own low (by omega) (by simp only [h_n]; omega) |>.pushed low).trans (kpG.mono fun _ _ _ h => h.elim)
      · simp -implicitDefEqProofs only [↓v_lenS, SB, POp.val, AOp.val, WOp.val, Lite.bin, intBin, strBin, eqv, eqMany, eq1, AV.asBool, AV.asInt, AV.asNat, AV.asPtr, AV.asStr, resVals, ResV.val, oneOr, wants, skipped, fillAt, putAt, capOf, optNat, bnd, Nat.reduceBEq, reduceIte, Nat.reduceAdd, Nat.reduceLeDiff, Nat.reduceEqDiff, Nat.reduceSub, Nat.reduceMul, Nat.reduceDiv, SOper.again, same, sameBlk, sameCap, Nat.reduceBneDiff, s_draw2, s_pair, k_pair, asunder, SOper.into, Bool.not_false, Bool.not_true, hGg k0 (by omega), hGg H.n (by omega), hGg (H.n + 1) (by omega), hGg (H.n + 2) (by omega), g0, n0, n1, n2, n3, Nat.add_zero]
        rfl
    · obtain ⟨v, u, accv, accu, hap, low2, kp, gk, r0, r4, r6, re, ru, ri, gb0, gb1, gb2⟩ := h
      have accu := accu.acc (by intro e; have := congrArg List.length e; rw [hlen2] at this; simp at this; omega)
      have fv := accv.flat
      have fu := accu.flat
      obtain ⟨H3, hsoft, kp3⟩ := accu.soft
      have low3 := kp3.low low2
      have kpa := accu.keeps kp low kp3
      have e5 := e4 H3 k0 ty low3 (accu.row (by decide) kp3 gk)
      have gc0 := accu.row (by decide) kp3 gb0
      have gc1 := accu.row (by decide) kp3 gb1
      have gc2 := accu.row (by decide) kp3 gb2
      have accv3 := accu.beside accv hap.symm kp3
      obtain ⟨kx, tx, nx, lx⟩ := x
      simp only [X.v_mk, Raw.cells_mk] at e5
      have hz : ((0 : Nat) : Int) = 0 := rfl
      rw [hz] at e5
      simp -implicitDefEqProofs only [↓v_lenS, SB, POp.val, AOp.val, WOp.val, Lite.bin, intBin, strBin, eqv, eqMany, eq1, AV.asBool, AV.asInt, AV.asNat, AV.asPtr, AV.asStr, resVals, ResV.val, oneOr, wants, skipped, fillAt, putAt, capOf, optNat, bnd, Nat.reduceBEq, reduceIte, Nat.reduceAdd, Nat.reduceLeDiff, Nat.reduceEqDiff, Nat.reduceSub, Nat.reduceMul, Nat.reduceDiv, SOper.again, same, sameBlk, sameCap, Nat.reduceBneDiff, s_draw2, s_pair, k_pair, asunder, SOper.into, Bool.not_false, Bool.not_true, CL, XS, softV_vStrs, len_vRaws, fl_vRaws, shutC_vRaws, r0, r4, r6, re, ru, gb0, hsoft]
      refine gives_call e5 ?_
      rintro w H5 ⟨rfl, gk5, kp5⟩
      have low5 := kp5.low low3
      have gd1 := kp5.get _ _ gc1 (only_row (Ne.symm n1))
      have gd2 := kp5.get _ _ gc2 (only_row (Ne.symm n2))
      have accv5 := accv3.kept kp5 fun j hj _ => only_row (by omega)
      have x1 : ¬ H.n + 1 = H5.n := by have := low5.lt gd1; omega
      have x2 : ¬ H.n + 2 = H5.n := by have := low5.lt gd2; omega
      have x3 : ¬ H.n + 1 = H.n + 2 := by omega
      have kp6 := ((kpa.trans kp5).pushed low (ob := .row [.int .i64 kx, .str tx, vStrs nx, vXs lx] 0 true none)).own low (j := H.n + 2) (by omega) (by simp only [h_n]; have := low5.lt gd2; omega) (ob := .row [.int .i64 6, .str [], v, .lst 4 1 true [.int .i64 kx, .str tx, vStrs nx, vXs lx]] 0 false (some 28))
      have kp7 := kp6.own low (j := H.n + 1) (by omega) (by simp only [h_n, h_nput]; have := low5.lt gd2; omega) (ob := .row [.int .i64 6, .str [], v, .lst 4 1 true [.int .i64 kx, .str tx, vStrs nx, vXs lx]] 0 false (some 28))
      have accv7 := ((accv5.push low5 (ob := .row [.int .i64 kx, .str tx, vStrs nx, vXs lx] 0 true none)).put (by decide) (k := H.n + 2) (by rw [h_get, if_neg x2]; exact gd2) (ob := .row [.int .i64 6, .str [], v, .lst 4 1 true [.int .i64 kx, .str tx, vStrs nx, vXs lx]] 0 false (some 28))).put (by decide) (k := H.n + 1) (by rw [h_gput, if_neg x3, h_get, if_neg x1]; exact gd1) (ob := .row [.int .i64 6, .str [], v, .lst 4 1 true [.int .i64 kx, .str tx, vStrs nx, vXs lx]] 0 false (some 28))
      obtain ⟨H9, hsh, kp9⟩ := accv7.shut (d := 63) (by decide) (Still.flat str1_still _)
      have hLv : AV.L true 1 ((vds m N).flatMap str1) N = vStrs (vds m N) := by rw [← L_vStrs, vds_len]
      rw [hLv] at hsh
      have hx1 : vXs [X.mk kx tx nx lx] = .lst 4 1 false [.int .i64 kx, .str tx, vStrs nx, vXs lx] := by
        simp only [vXs, vList_cons, List.flatMap_nil, X.cells_mk, List.length_nil, List.append_nil]
      simp -implicitDefEqProofs only [↓v_lenS, SB, POp.val, AOp.val, WOp.val, Lite.bin, intBin, strBin, eqv, eqMany, eq1, AV.asBool, AV.asInt, AV.asNat, AV.asPtr, AV.asStr, resVals, ResV.val, oneOr, wants, skipped, fillAt, putAt, capOf, optNat, bnd, Nat.reduceBEq, reduceIte, Nat.reduceAdd, Nat.reduceLeDiff, Nat.reduceEqDiff, Nat.reduceSub, Nat.reduceMul, Nat.reduceDiv, SOper.again, same, sameBlk, sameCap, Nat.reduceBneDiff, s_draw2, s_pair, k_pair, asunder, SOper.into, Bool.not_false, Bool.not_true, CL, XS, r0, r4, r6, re, ru, fv, x1, x2, x3, gd1, gd2, gives_ret, hsh, hx1]
      refine ⟨_, _, rfl, rfl, ?_, accv7.keeps kp7 low kp9⟩
      refine accv7.row (by decide) kp9 ?_
      rw [h_gput, if_neg n1, h_gput, if_neg n2, h_get, if_neg (by have := low5.lt gk5; omega)]
      exact gk5

end Go.Lite

/-
  The maker: bindings.
-/
namespace Go.Lite
open Go Go.Proofs
set_option maxRecDepth 100000
set_option linter.unusedSimpArgs false
set_option linter.unusedVariables false

set_option maxHeartbeats 4000000 in
theorem loop_let {n N k0 : Nat} {ty : Option Nat} {k q : Int} {l : List Raw} {sc : List Str} {m : Nat} {H : Heap} {KK : Ex → Fr → Heap → R} {Q : AV → Heap → Prop} (low : HLow H) (hk0 : k0 < H.n) (hN3 : N ≤ 3) (hge : 10 ≤ n) (hsc : sc.length ≤ m + 10) (hm : m + N < 100)
    (en : ∀ b ∈ List.range 100, b + 1 < 100 → ∀ (H : Heap) (k0 : Nat) (ty : Option Nat), HLow H → H.t.get k0 = some (.row [.int .i64 b] 0 false ty) → Gives (call1 P3 n 31 [.ptr (.new k0) 0] H) fun v H' => v = .str (vdot (b + 1)) ∧ H'.t.get k0 = some (.row [.int .i64 (b + 1 : Nat)] 0 false ty) ∧ HKeep (only k0) H H')
    (fr : Fr) (H2 : Heap) (h : NamInv H k0 ty k q l sc m 13 14 16 9 0 fr H2 ∧ fr 15 = .int .i64 N) (hend : ∀ fr H2, NamInv H k0 ty k q l sc m 13 14 16 9 N fr H2 → fr 15 = .int .i64 N → Gives (KK (.exit 5) fr H2) Q) :
    Gives (loopR (callN P3 n) n c30_l2 n fr H2 KK) Q := by
  have n0 : ¬ k0 = H.n := by omega
  have n1 : ¬ k0 = H.n + 1 := by omega
  have n2 : ¬ k0 = H.n + 2 := by omega
  refine loop_rounds N (fun i fr H2 => NamInv H k0 ty k q l sc m 13 14 16 9 i fr H2 ∧ fr 15 = .int .i64 N) ?_ ?_ n 0 _ _ (by omega) (by omega) h
  · rintro i fr H2 K' hi ⟨⟨v, u, accv, accu, hap, low2, kp, gk, r0, r4, r6, re, ru, ri, gb0, gb1, gb2⟩, r15⟩ hKe hKr hK
    have hlt : (i : Int) < (N : Int) := by omega
    have hw := wrap_succ hi (by omega)
    have e5 := en (m + i) (List.mem_range.2 (by omega)) (by omega) H2 k0 ty low2 gk
    have fv := accv.flat
    have fu := accu.flat
    simp -implicitDefEqProofs only [c30_l2, ↓v_lenS, SB, POp.val, AOp.val, WOp.val, Lite.bin, intBin, strBin, eqv, eqMany, eq1, AV.asBool, AV.asInt, AV.asNat, AV.asPtr, AV.asStr, resVals, ResV.val, oneOr, wants, skipped, fillAt, putAt, capOf, optNat, bnd, Nat.reduceBEq, reduceIte, Nat.reduceAdd, Nat.reduceLeDiff, Nat.reduceEqDiff, Nat.reduceSub, Nat.reduceMul, Nat.reduceDiv, SOper.again, same, sameBlk, sameCap, Nat.reduceBneDiff, s_draw2, s_pair, k_pair, asunder, SOper.into, Bool.not_false, Bool.not_true, CL, XS, softV_vStrs, len_vRaws, fl_vRaws, shutC_vRaws, r0, r4, r6, re, ru, ri, gb0, gb1, gb2, r15, hlt]
    refine gives_call e5 ?_
    rintro w H5 ⟨rfl, gk5, kp5⟩
    have low5 := kp5.low low2
    have gc0 := kp5.get _ _ gb0 (only_row (Ne.symm n0))
    have gc1 := kp5.get _ _ gb1 (only_row (Ne.symm n1))
    have gc2 := kp5.get _ _ gb2 (only_row (Ne.symm n2))
    have accv5 := accv.kept kp5 fun j hj _ => only_row (by omega)
    have accu5 := accu.kept kp5 fun j o hj _ => only_row (by omega)
    have kp6 := kp.trans kp5
    have hn5 := low5.lt gc2
    have hsl : (sc ++ vds m i).length = sc.length + i := by rw [List.length_append, vds_len]
    generalize hs : vdot (m + i + 1) = s at *
    have hlow5 := low5.push (ob := .row [.str s] 0 true none)
    obtain ⟨H7, happ, acc7, kp7, low7, hn7⟩ := (accv5.push low5 (ob := .row [.str s] 0 true none)).one_more (e := 9) (bs := 16) (ys := [.str s]) (by simp only [h_n]; have := kp6.n; omega) hlow5 (by decide) rfl rfl (by omega)
    have accu5' := accu5.kept (HKeep.push low5 (X := fun _ _ => False) (ob := .row [.str s] 0 true none)) fun j o _ _ h => h
    have accu7 := accu5'.kept kp7 fun j o hj hb hx => by
      obtain ⟨o1, n1, c1, e1⟩ := hb
      obtain ⟨o2, n2, c2, e2⟩ := hx
      exact hap _ _ _ _ _ _ _ _ e2 e1 rfl
    have kp8 := (accv5.push low5 (ob := .row [.str s] 0 true none)).keeps (kp6.pushed low (ob := .row [.str s] 0 true none)) low kp7
    have car7 : ∀ j cs tt, H5.t.get j = some (.row cs 0 false tt) → H7.t.get j = some (.row cs 0 false tt) := fun j cs tt hg =>
      (accv5.push low5).row (by decide) kp7 (by rw [h_get, if_neg (by have := low5.lt hg; omega)]; exact hg)
    have lowA := low7.push (ob := .row [.str s] 0 true none)
    have accuA := accu7.kept (HKeep.push low7 (X := fun _ _ => False) (ob := .row [.str s] 0 true none)) fun j o _ _ h => h
    obtain ⟨HC, happ2, accC, kpC, lowC, hnC⟩ := accuA.one_more (by simp only [h_n]; have := kp8.n; omega) lowA (by omega) s
    rw [hsl] at happ2 accC
    have accvA := acc7.push low7 (ob := .row [.str s] 0 true none)
    have hapA := accuA.apart_fresh
    have accvC := accvA.keep (H' := HC) fun j o hb hj => by
      rw [hj]
      refine kpC.get j _ hj ?_
      rintro ⟨o1, n1, c1, e1⟩
      obtain ⟨o2, n2, c2, e2⟩ := hb
      exact (accu5'.apart_fresh hlow5 (Nat.le_refl _)) _ _ _ _ _ _ _ _ e2 e1 rfl
    have hapC : Apart (.slice (.new (H5.push (.row [.str s] 0 true none)).n) 0 (i + 1) (.gro 1)) (.slice (.new (H7.push (.row [.str s] 0 true none)).n) 0 (sc.length + i + 1) (.gro 1)) := (accvA.fresh lowA (Nat.le_refl _)).symm
    have kpD : HKeep (only k0) H HC := ⟨Nat.le_trans (kp8.pushed low (ob := .row [.str s] 0 true none)).n kpC.n, fun j o hj hx => kpC.get j o ((kp8.pushed low (ob := .row [.str s] 0 true none)).get j o hj hx) (fun ⟨o1, n1, c1, e1⟩ => by
      have hjl := low j o hj
      rcases accuA with ⟨_, h⟩ | h
      · rw [e1] at h; cases h
      · have := (h.below lowA e1).1; omega), fun l => lowC⟩
    have car : ∀ j cs tt, H5.t.get j = some (.row cs 0 false tt) → HC.t.get j = some (.row cs 0 false tt) := fun j cs tt hg => by
      have h7 := car7 j cs tt hg
      refine kpC.get j _ (by rw [h_get, if_neg (by have := low7.lt h7; omega)]; exact h7) ?_
      rintro ⟨o1, n1, c1, e1⟩
      rcases accuA with ⟨_, h⟩ | ⟨_, _, h⟩ | ⟨_, _, kk, h, _, h6⟩
      · rw [e1] at h; cases h
      · rw [e1] at h; cases h
      · rw [e1] at h
        simp only [AV.slice.injEq, Blk.new.injEq] at h
        rw [← h.1, h_get, if_neg (by have := low7.lt h7; omega), h7] at h6
        simp at h6
    have gd2 := car _ _ _ gc2
    simp only [h_n] at happ happ2 acc7 accC accvC hapC
    simp -implicitDefEqProofs only [↓v_lenS, SB, POp.val, AOp.val, WOp.val, Lite.bin, intBin, strBin, eqv, eqMany, eq1, AV.asBool, AV.asInt, AV.asNat, AV.asPtr, AV.asStr, resVals, ResV.val, oneOr, wants, skipped, fillAt, putAt, capOf, optNat, bnd, Nat.reduceBEq, reduceIte, Nat.reduceAdd, Nat.reduceLeDiff, Nat.reduceEqDiff, Nat.reduceSub, Nat.reduceMul, Nat.reduceDiv, SOper.again, same, sameBlk, sameCap, Nat.reduceBneDiff, s_draw2, s_pair, k_pair, asunder, SOper.into, Bool.not_false, Bool.not_true, CL, XS, r0, r4, r6, re, ru, ri, gc0, gc1, gc2, fv, fu, k_taken, happ, happ2, gd2, hw]
    refine hK _ _ ⟨⟨_, _, ?_, ?_, hapC, lowC.put (lowC.lt gd2), kpD.own low (by omega) (lowC.lt gd2), ?_, ?_, ?_, ?_, ?_, ?_, ?_, ?_, ?_, ?_⟩, ?_⟩
    · rw [vds_snoc, flat_snoc, hs]; exact accvC.put (by decide) gd2
    · rw [vds_snoc, ← List.append_assoc, hs]
      refine .inr ?_
      rw [List.length_append, hsl]
      exact accC.put (by decide) gd2
    · rw [h_gput, if_neg n2]; exact car _ _ _ gk5
    · simp -implicitDefEqProofs only [↓v_lenS, SB, POp.val, AOp.val, WOp.val, Lite.bin, intBin, strBin, eqv, eqMany, eq1, AV.asBool, AV.asInt, AV.asNat, AV.asPtr, AV.asStr, resVals, ResV.val, oneOr, wants, skipped, fillAt, putAt, capOf, optNat, bnd, Nat.reduceBEq, reduceIte, Nat.reduceAdd, Nat.reduceLeDiff, Nat.reduceEqDiff, Nat.reduceSub, Nat.reduceMul, Nat.reduceDiv, SOper.again, same, sameBlk, sameCap, Nat.reduceBneDiff, s_draw2, s_pair, k_pair, asunder, SOper.into, Bool.not_false, Bool.not_true, r0]
    · simp -implicitDefEqProofs only [↓v_lenS, SB, POp.val, AOp.val, WOp.val, Lite.bin, intBin, strBin, eqv, eqMany, eq1, AV.asBool, AV.asInt, AV.asNat, AV.asPtr, AV.asStr, resVals, ResV.val, oneOr, wants, skipped, fillAt, putAt, capOf, optNat, bnd, Nat.reduceBEq, reduceIte, Nat.reduceAdd, Nat.reduceLeDiff, Nat.reduceEqDiff, Nat.reduceSub, Nat.reduceMul, Nat.reduceDiv, SOper.again, same, sameBlk, sameCap, Nat.reduceBneDiff, s_draw2, s_pair, k_pair, asunder, SOper.into, Bool.not_false, Bool.not_true, r4]
    · simp -implicitDefEqProofs only [↓v_lenS, SB, POp.val, AOp.val, WOp.val, Lite.bin, intBin, strBin, eqv, eqMany, eq1, AV.asBool, AV.asInt, AV.asNat, AV.asPtr, AV.asStr, resVals, ResV.val, oneOr, wants, skipped, fillAt, putAt, capOf, optNat, bnd, Nat.reduceBEq, reduceIte, Nat.reduceAdd, Nat.reduceLeDiff, Nat.reduceEqDiff, Nat.reduceSub, Nat.reduceMul, Nat.reduceDiv, SOper.again, same, sameBlk, sameCap, Nat.reduceBneDiff, s_draw2, s_pair, k_pair, asunder, SOper.into, Bool.not_false, Bool.not_true, r6]
    · simp -implicitDefEqProofs only [↓v_lenS, SB, POp.val, AOp.val, WOp.val, Lite.bin, intBin, strBin, eqv, eqMany, eq1, AV.asBool, AV.asInt, AV.asNat, AV.asPtr, AV.asStr, resVals, ResV.val, oneOr, wants, skipped, fillAt, putAt, capOf, optNat, bnd, Nat.reduceBEq, reduceIte, Nat.reduceAdd, Nat.reduceLeDiff, Nat.reduceEqDiff, Nat.reduceSub, Nat.reduceMul, Nat.reduceDiv, SOper.again, same, sameBlk, sameCap, Nat.reduceBneDiff, s_draw2, s_pair, k_pair, asunder, SOper.into, Bool.not_false, Bool.not_true, re]
    · simp -implicitDefEqProofs only [↓v_lenS, SB, POp.val, AOp.val, WOp.val, Lite.bin, intBin, strBin, eqv, eqMany, eq1, AV.asBool, AV.asInt, AV.asNat, AV.asPtr, AV.asStr, resVals, ResV.val, oneOr, wants, skipped, fillAt, putAt, capOf, optNat, bnd, Nat.reduceBEq, reduceIte, Nat.reduceAdd, Nat.reduceLeDiff, Nat.reduceEqDiff, Nat.reduceSub, Nat.reduceMul, Nat.reduceDiv, SOper.again, same, sameBlk, sameCap, Nat.reduceBneDiff, s_draw2, s_pair, k_pair, asunder, SOper.into, Bool.not_false, Bool.not_true]
    · simp -implicitDefEqProofs only [↓v_lenS, SB, POp.val, AOp.val, WOp.val, Lite.bin, intBin, strBin, eqv, eqMany, eq1, AV.asBool, AV.asInt, AV.asNat, AV.asPtr, AV.asStr, resVals, ResV.val, oneOr, wants, skipped, fillAt, putAt, capOf, optNat, bnd, Nat.reduceBEq, reduceIte, Nat.reduceAdd, Nat.reduceLeDiff, Nat.reduceEqDiff, Nat.reduceSub, Nat.reduceMul, Nat.reduceDiv, SOper.again, same, sameBlk, sameCap, Nat.reduceBneDiff, s_draw2, s_pair, k_pair, asunder, SOper.into, Bool.not_false, Bool.not_true]
    · rw [h_gput, if_neg (by omega)]; exact car _ _ _ gc0
    · rw [h_gput, if_neg (by omega)]; exact car _ _ _ gc1
    · rw [h_gput, if_pos rfl]
    · simp -implicitDefEqProofs only [↓v_lenS, SB, POp.val, AOp.val, WOp.val, Lite.bin, intBin, strBin, eqv, eqMany, eq1, AV.asBool, AV.asInt, AV.asNat, AV.asPtr, AV.asStr, resVals, ResV.val, oneOr, wants, skipped, fillAt, putAt, capOf, optNat, bnd, Nat.reduceBEq, reduceIte, Nat.reduceAdd, Nat.reduceLeDiff, Nat.reduceEqDiff, Nat.reduceSub, Nat.reduceMul, Nat.reduceDiv, SOper.again, same, sameBlk, sameCap, Nat.reduceBneDiff, s_draw2, s_pair, k_pair, asunder, SOper.into, Bool.not_false, Bool.not_true, r15]
  · rintro fr H2 K' ⟨h, r15⟩ hKe hKr
    obtain ⟨v, u, accv, accu, hap, low2, kp, gk, r0, r4, r6, re, ru, ri, gb0, gb1, gb2⟩ := h
    simp -implicitDefEqProofs only [c30_l2, ↓v_lenS, SB, POp.val, AOp.val, WOp.val, Lite.bin, intBin, strBin, eqv, eqMany, eq1, AV.asBool, AV.asInt, AV.asNat, AV.asPtr, AV.asStr, resVals, ResV.val, oneOr, wants, skipped, fillAt, putAt, capOf, optNat, bnd, Nat.reduceBEq, reduceIte, Nat.reduceAdd, Nat.reduceLeDiff, Nat.reduceEqDiff, Nat.reduceSub, Nat.reduceMul, Nat.reduceDiv, SOper.again, same, sameBlk, sameCap, Nat.reduceBneDiff, s_draw2, s_pair, k_pair, asunder, SOper.into, Bool.not_false, Bool.not_true, CL, XS, softV_vStrs, r0, r4, r6, re, ru, ri, gb0, gb1, gb2, r15, Int.lt_irrefl, hKe]
    refine hend _ _ ⟨v, u, accv, accu, hap, low2, kp, gk, ?_, ?_, ?_, ?_, ?_, ?_, gb0, gb1, gb2⟩ ?_ <;> simp -implicitDefEqProofs only [↓v_lenS, SB, POp.val, AOp.val, WOp.val, Lite.bin, intBin, strBin, eqv, eqMany, eq1, AV.asBool, AV.asInt, AV.asNat, AV.asPtr, AV.asStr, resVals, ResV.val, oneOr, wants, skipped, fillAt, putAt, capOf, optNat, bnd, Nat.reduceBEq, reduceIte, Nat.reduceAdd, Nat.reduceLeDiff, Nat.reduceEqDiff, Nat.reduceSub, Nat.reduceMul, Nat.reduceDiv, SOper.again, same, sameBlk, sameCap, Nat.reduceBneDiff, s_draw2, s_pair, k_pair, asunder, SOper.into, Bool.not_false, Bool.not_true, r0, r4, r6, re, ru, ri, r15]

/-- ahead of round i: the parts of a binding, the names that are there told already or not yet -/
def LetInv (H : Heap) (k0 : Nat) (ty : Option Nat) (k q : Int) (l : List Raw) (ns sc : List Str) (es : List X) (ms : Nat → Nat) (i : Nat) (fr : Fr) (H2 : Heap) : Prop :=
  ∃ a v ku fz, Acc H.n H2 28 4 i ((es.take i).flatMap X.cells) a ∧ Acc H.n H2 9 1 ns.length (ns.flatMap str1) v ∧ H.n ≤ ku ∧ Apart v (.slice (.new ku) 0 sc.length (.gro 1)) ∧ H2.t.get ku = some (.row (sc.flatMap str1) 1 fz (some 9)) ∧ HLow H2 ∧ HKeep (only k0) H H2 ∧ H2.t.get k0 = some (.row [.int .i64 (ms i)] 0 false ty) ∧
    fr 0 = .ptr (.new k0) 0 ∧ fr 4 = .ptr (.new H.n) 0 ∧ fr 6 = .ptr (.new (H.n + 1)) 0 ∧ fr 13 = .ptr (.new (H.n + 2)) 0 ∧ fr 14 = .slice (.new ku) 0 sc.length (.gro 1) ∧ fr 15 = .int .i64 ns.length ∧ fr 18 = .int .i64 i ∧
    H2.t.get H.n = some (.row [.int .i64 k, .int .i64 q, vRaws l] 0 false (some 53)) ∧ H2.t.get (H.n + 1) = some (.row [.int .i64 0, .str [], .nils, .nils] 0 false (some 28)) ∧ H2.t.get (H.n + 2) = some (.row [.int .i64 9, .str [], v, a] 0 false (some 28))

/-- another row is put: a list over another type stays -/
theorem Acc.putT {N : Nat} {H : Heap} {e es n : Nat} {cells : List AV} {v : AV} {ob : Obj} {k : Nat} (h : Acc N H e es n cells v) {cs : List AV} {es' : Nat} {fz : Bool} {t : Nat} (hk : H.t.get k = some (.row cs es' fz (some t))) (ht : t ≠ e) : Acc N (H.put k ob) e es n cells v :=
  h.keep fun j _ _ hj => by
    rw [h_gput, if_neg]
    rintro rfl
    rw [hk] at hj
    simp only [Option.some.injEq, Obj.row.injEq] at hj
    exact ht hj.2.2.2

theorem softV_row {H : Heap} {ku : Nat} {fz : Bool} {ns : List Str} (h : H.t.get ku = some (.row (ns.flatMap str1) 1 fz (some 9))) (hne : ns ≠ []) : softV (.slice (.new ku) 0 ns.length (.gro 1)) H = some (vStrs ns, H.put ku (.row (ns.flatMap str1) 1 true (some 9))) := by
  refine softV_some ?_
  have hl : (ns.flatMap str1).length = ns.length * 1 := flat_len str1_len ns
  have ht : (ns.flatMap str1).take (ns.length * (Cap.gro 1).es) = ns.flatMap str1 := by
    show (ns.flatMap str1).take (ns.length * 1) = ns.flatMap str1
    rw [← hl, List.take_length]
  rw [shutV_slice, shutC_sl (d := 63), h, shutRow_row, List.drop_zero]
  rw [if_pos (by rw [ht]; exact ⟨hl, .inr (by decide)⟩), ht, (Still.flat str1_still ns).map]
  simp only [Option.map_some]
  cases ns with
  | nil => exact absurd rfl hne
  | cons s ns => rfl

set_option maxHeartbeats 4000000 in
theorem loop_parts {n k0 : Nat} {ty : Option Nat} {k q : Int} {l : List Raw} {ns sc : List Str} {es : List X} {ms : Nat → Nat} {H : Heap} {KK : Ex → Fr → Heap → R} {Q : AV → Heap → Prop} (low : HLow H) (hk0 : k0 < H.n) (hlen : es.length = ns.length + 1) (hN3 : ns.length ≤ 3) (hge : 10 ≤ n) (hsc : sc ≠ [])
    (ee : ∀ j, j < ns.length + 1 → ∀ e, es[j]? = some e → Makes 46 [.agg (Raw.mk k q l).cells, .int .i64 j, vStrs sc] (ms j) e (ms (j + 1)) n)
    (fr : Fr) (H2 : Heap) (h : LetInv H k0 ty k q l ns sc es ms 0 fr H2) (hend : ∀ fr H2, LetInv H k0 ty k q l ns sc es ms (ns.length + 1) fr H2 → Gives (KK (.exit 7) fr H2) Q) :
    Gives (loopR (callN P3 n) n c30_l3 n fr H2 KK) Q := by
  have n0 : ¬ k0 = H.n := by omega
  have n1 : ¬ k0 = H.n + 1 := by omega
  have n2 : ¬ k0 = H.n + 2 := by omega
  refine loop_rounds (ns.length + 1) (fun i fr H2 => LetInv H k0 ty k q l ns sc es ms i fr H2) ?_ ?_ n 0 _ _ (by omega) (by omega) h
  · rintro i fr H2 K' hi ⟨a, v, ku, fz, acca, accv, hku, hap, gu, low2, kp, gk, r0, r4, r6, r13, r14, r15, r18, gb0, gb1, gb2⟩ hKe hKr hK
    obtain ⟨x, hx⟩ : ∃ x, es[i]? = some x := ⟨es[i], List.getElem?_eq_getElem (by omega)⟩
    have hlt : (i : Int) ≤ (ns.length : Int) := by omega
    have hw := wrap_succ hi (by omega)
    have hnt : es.take (i + 1) = es.take i ++ [x] := by rw [List.take_add_one, hx]; rfl
    have hsoft := softV_row gu hsc
    have low3 := low2.put (low2.lt gu) (ob := .row (sc.flatMap str1) 1 true (some 9))
    have kp3 := kp.own low hku (low2.lt gu) (ob := .row (sc.flatMap str1) 1 true (some 9))
    have acca3 := acca.putT gu (by decide) (ob := .row (sc.flatMap str1) 1 true (some 9))
    have accv3 := accv.keep (H' := H2.put ku (.row (sc.flatMap str1) 1 true (some 9))) fun j o hb hj => by
      rw [h_gput, if_neg]
      obtain ⟨o1, n1, c1, e1⟩ := hb
      exact hap _ _ _ _ _ _ _ _ e1 rfl
    have car3 : ∀ j cs tt, H2.t.get j = some (.row cs 0 false tt) → (H2.put ku (.row (sc.flatMap str1) 1 true (some 9))).t.get j = some (.row cs 0 false tt) := fun j cs tt hg => by
      rw [h_gput, if_neg]
      · exact hg
      · rintro rfl; rw [gu] at hg; simp at hg
    have e5 := ee i hi x hx (H2.put ku (.row (sc.flatMap str1) 1 true (some 9))) k0 ty low3 (car3 _ _ _ gk)
    have gu3 : (H2.put ku (.row (sc.flatMap str1) 1 true (some 9))).t.get ku = some (.row (sc.flatMap str1) 1 true (some 9)) := by rw [h_gput, if_pos rfl]
    have gc0 := car3 _ _ _ gb0
    have gc1 := car3 _ _ _ gb1
    have gc2 := car3 _ _ _ gb2
    obtain ⟨kx, tx, nx, lx⟩ := x
    simp only [X.v_mk, Raw.cells_mk] at e5
    have fa := acca.flat
    have fv := accv.flat
    simp -implicitDefEqProofs only [c30_l3, ↓v_lenS, SB, POp.val, AOp.val, WOp.val, Lite.bin, intBin, strBin, eqv, eqMany, eq1, AV.asBool, AV.asInt, AV.asNat, AV.asPtr, AV.asStr, resVals, ResV.val, oneOr, wants, skipped, fillAt, putAt, capOf, optNat, bnd, Nat.reduceBEq, reduceIte, Nat.reduceAdd, Nat.reduceLeDiff, Nat.reduceEqDiff, Nat.reduceSub, Nat.reduceMul, Nat.reduceDiv, SOper.again, same, sameBlk, sameCap, Nat.reduceBneDiff, s_draw2, s_pair, k_pair, asunder, SOper.into, Bool.not_false, Bool.not_true, CL, XS, softV_vStrs, len_vRaws, fl_vRaws, shutC_vRaws, r0, r4, r6, r13, r14, r15, r18, gb0, gb1, gb2, hlt, hsoft]
    refine gives_call e5 ?_
    rintro w H5 ⟨rfl, gk5, kp5⟩
    have low5 := kp5.low low3
    have gd0 := kp5.get _ _ gc0 (only_row (Ne.symm n0))
    have gd1 := kp5.get _ _ gc1 (only_row (Ne.symm n1))
    have gd2 := kp5.get _ _ gc2 (only_row (Ne.symm n2))
    have gu5 := kp5.get _ _ gu3 (only_row (by omega))
    have acca5 := acca3.kept kp5 fun j hj _ => only_row (by omega)
    have accv5 := accv3.kept kp5 fun j hj _ => only_row (by omega)
    have kp6 := kp3.trans kp5
    have hlow5 := low5.push (ob := .row [.int .i64 kx, .str tx, vStrs nx, vXs lx] 0 true none)
    have acca5' := acca5.push low5 (ob := .row [.int .i64 kx, .str tx, vStrs nx, vXs lx] 0 true none)
    have accv5' := accv5.push low5 (ob := .row [.int .i64 kx, .str tx, vStrs nx, vXs lx] 0 true none)
    obtain ⟨H7, happ, acc7, kp7, low7, hn7⟩ := acca5'.one_more (e := 28) (bs := 72) (ys := [.int .i64 kx, .str tx, vStrs nx, vXs lx]) (by simp only [h_n]; have := kp6.n; omega) hlow5 (by decide) rfl four_flat (by omega)
    have accv7 := acca5'.other accv5' (by decide) kp7
    have gu7 : H7.t.get ku = some (.row (sc.flatMap str1) 1 true (some 9)) := by
      refine kp7.get ku _ (by rw [h_get, if_neg (by have := low5.lt gu5; omega)]; exact gu5) ?_
      rintro ⟨o, m, c, e⟩
      rcases acca5 with ⟨_, _, h⟩ | ⟨_, _, kk, h, _, h4⟩
      · rw [h] at e; cases e
      · rw [h] at e
        simp only [AV.slice.injEq, Blk.new.injEq] at e
        rw [e.1, gu5] at h4
        simp at h4
    have car : ∀ j cs tt, H5.t.get j = some (.row cs 0 false tt) → H7.t.get j = some (.row cs 0 false tt) := fun j cs tt hg =>
      acca5'.row (by decide) kp7 (by rw [h_get, if_neg (by have := low5.lt hg; omega)]; exact hg)
    have ge2 := car _ _ _ gd2
    simp only [h_n] at happ acc7
    simp -implicitDefEqProofs only [↓v_lenS, SB, POp.val, AOp.val, WOp.val, Lite.bin, intBin, strBin, eqv, eqMany, eq1, AV.asBool, AV.asInt, AV.asNat, AV.asPtr, AV.asStr, resVals, ResV.val, oneOr, wants, skipped, fillAt, putAt, capOf, optNat, bnd, Nat.reduceBEq, reduceIte, Nat.reduceAdd, Nat.reduceLeDiff, Nat.reduceEqDiff, Nat.reduceSub, Nat.reduceMul, Nat.reduceDiv, SOper.again, same, sameBlk, sameCap, Nat.reduceBneDiff, s_draw2, s_pair, k_pair, asunder, SOper.into, Bool.not_false, Bool.not_true, CL, XS, r0, r4, r6, r13, r14, r15, r18, gd0, gd1, gd2, fa, fv, k_taken, happ, ge2, hw]
    have hne : ¬ ku = H.n + 2 := by rintro rfl; rw [gu7] at ge2; simp at ge2
    refine hK _ _ ⟨.slice (.new (H5.n + 1)) 0 (i + 1) (.gro 4), v, ku, true, ?_, accv7.put (by decide) ge2, hku, hap, ?_, low7.put (low7.lt ge2), (acca5'.keeps (kp6.pushed low) low kp7).own low (by omega) (low7.lt ge2), ?_, ?_, ?_, ?_, ?_, ?_, ?_, ?_, ?_, ?_, ?_⟩
    · rw [hnt, flat_snoc, X.cells_mk]; exact acc7.put (by decide) ge2
    · rw [h_gput, if_neg hne]; exact gu7
    · rw [h_gput, if_neg n2]; exact car _ _ _ gk5
    · simp -implicitDefEqProofs only [↓v_lenS, SB, POp.val, AOp.val, WOp.val, Lite.bin, intBin, strBin, eqv, eqMany, eq1, AV.asBool, AV.asInt, AV.asNat, AV.asPtr, AV.asStr, resVals, ResV.val, oneOr, wants, skipped, fillAt, putAt, capOf, optNat, bnd, Nat.reduceBEq, reduceIte, Nat.reduceAdd, Nat.reduceLeDiff, Nat.reduceEqDiff, Nat.reduceSub, Nat.reduceMul, Nat.reduceDiv, SOper.again, same, sameBlk, sameCap, Nat.reduceBneDiff, s_draw2, s_pair, k_pair, asunder, SOper.into, Bool.not_false, Bool.not_true, r0]
    · simp -implicitDefEqProofs only [↓v_lenS, SB, POp.val, AOp.val, WOp.val, Lite.bin, intBin, strBin, eqv, eqMany, eq1, AV.asBool, AV.asInt, AV.asNat, AV.asPtr, AV.asStr, resVals, ResV.val, oneOr, wants, skipped, fillAt, putAt, capOf, optNat, bnd, Nat.reduceBEq, reduceIte, Nat.reduceAdd, Nat.reduceLeDiff, Nat.reduceEqDiff, Nat.reduceSub, Nat.reduceMul, Nat.reduceDiv, SOper.again, same, sameBlk, sameCap, Nat.reduceBneDiff, s_draw2, s_pair, k_pair, asunder, SOper.into, Bool.not_false, Bool.not_true, r4]
    · simp -implicitDefEqProofs only [↓v_lenS, SB, POp.val, AOp.val, WOp.val, Lite.bin, intBin, strBin, eqv, eqMany, eq1, AV.asBool, AV.asInt, AV.asNat, AV.asPtr, AV.asStr, resVals, ResV.val, oneOr, wants, skipped, fillAt, putAt, capOf, optNat, bnd, Nat.reduceBEq, reduceIte, Nat.reduceAdd, Nat.reduceLeDiff, Nat.reduceEqDiff, Nat.reduceSub, Nat.reduceMul, Nat.reduceDiv, SOper.again, same, sameBlk, sameCap, Nat.reduceBneDiff, s_draw2, s_pair, k_pair, asunder, SOper.into, Bool.not_false, Bool.not_true, r6]
    · simp -implicitDefEqProofs only [↓v_lenS, SB, POp.val, AOp.val, WOp.val, Lite.bin, intBin, strBin, eqv, eqMany, eq1, AV.asBool, AV.asInt, AV.asNat, AV.asPtr, AV.asStr, resVals, ResV.val, oneOr, wants, skipped, fillAt, putAt, capOf, optNat, bnd, Nat.reduceBEq, reduceIte, Nat.reduceAdd, Nat.reduceLeDiff, Nat.reduceEqDiff, Nat.reduceSub, Nat.reduceMul, Nat.reduceDiv, SOper.again, same, sameBlk, sameCap, Nat.reduceBneDiff, s_draw2, s_pair, k_pair, asunder, SOper.into, Bool.not_false, Bool.not_true, r13]
    · simp -implicitDefEqProofs only [↓v_lenS, SB, POp.val, AOp.val, WOp.val, Lite.bin, intBin, strBin, eqv, eqMany, eq1, AV.asBool, AV.asInt, AV.asNat, AV.asPtr, AV.asStr, resVals, ResV.val, oneOr, wants, skipped, fillAt, putAt, capOf, optNat, bnd, Nat.reduceBEq, reduceIte, Nat.reduceAdd, Nat.reduceLeDiff, Nat.reduceEqDiff, Nat.reduceSub, Nat.reduceMul, Nat.reduceDiv, SOper.again, same, sameBlk, sameCap, Nat.reduceBneDiff, s_draw2, s_pair, k_pair, asunder, SOper.into, Bool.not_false, Bool.not_true, r14]
    · simp -implicitDefEqProofs only [↓v_lenS, SB, POp.val, AOp.val, WOp.val, Lite.bin, intBin, strBin, eqv, eqMany, eq1, AV.asBool, AV.asInt, AV.asNat, AV.asPtr, AV.asStr, resVals, ResV.val, oneOr, wants, skipped, fillAt, putAt, capOf, optNat, bnd, Nat.reduceBEq, reduceIte, Nat.reduceAdd, Nat.reduceLeDiff, Nat.reduceEqDiff, Nat.reduceSub, Nat.reduceMul, Nat.reduceDiv, SOper.again, same, sameBlk, sameCap, Nat.reduceBneDiff, s_draw2, s_pair, k_pair, asunder, SOper.into, Bool.not_false, Bool.not_true, r15]
    · simp -implicitDefEqProofs only [↓v_lenS, SB, POp.val, AOp.val, WOp.val, Lite.bin, intBin, strBin, eqv, eqMany, eq1, AV.asBool, AV.asInt, AV.asNat, AV.asPtr, AV.asStr, resVals, ResV.val, oneOr, wants, skipped, fillAt, putAt, capOf, optNat, bnd, Nat.reduceBEq, reduceIte, Nat.reduceAdd, Nat.reduceLeDiff, Nat.reduceEqDiff, Nat.reduceSub, Nat.reduceMul, Nat.reduceDiv, SOper.again, same, sameBlk, sameCap, Nat.reduceBneDiff, s_draw2, s_pair, k_pair, asunder, SOper.into, Bool.not_false, Bool.not_true]
    · rw [h_gput, if_neg (by omega)]; exact car _ _ _ gd0
    · rw [h_gput, if_neg (by omega)]; exact car _ _ _ gd1
    · rw [h_gput, if_pos rfl]
  · rintro fr H2 K' h hKe hKr
    obtain ⟨a, v, ku, fz, acca, accv, hku, hap, gu, low2, kp, gk, r0, r4, r6, r13, r14, r15, r18, gb0, gb1, gb2⟩ := h
    have hlt : ¬ ((ns.length + 1 : Nat) : Int) ≤ (ns.length : Int) := by omega
    simp -implicitDefEqProofs only [c30_l3, ↓v_lenS, SB, POp.val, AOp.val, WOp.val, Lite.bin, intBin, strBin, eqv, eqMany, eq1, AV.asBool, AV.asInt, AV.asNat, AV.asPtr, AV.asStr, resVals, ResV.val, oneOr, wants, skipped, fillAt, putAt, capOf, optNat, bnd, Nat.reduceBEq, reduceIte, Nat.reduceAdd, Nat.reduceLeDiff, Nat.reduceEqDiff, Nat.reduceSub, Nat.reduceMul, Nat.reduceDiv, SOper.again, same, sameBlk, sameCap, Nat.reduceBneDiff, s_draw2, s_pair, k_pair, asunder, SOper.into, Bool.not_false, Bool.not_true, CL, XS, r0, r4, r6, r13, r14, r15, r18, gb0, gb1, gb2, hlt, hKe]
    refine hend _ _ ⟨a, v, ku, fz, acca, accv, hku, hap, gu, low2, kp, gk, ?_, ?_, ?_, ?_, ?_, ?_, ?_, gb0, gb1, gb2⟩ <;> simp -implicitDefEqProofs only [↓v_lenS, SB, POp.val, AOp.val, WOp.val, Lite.bin, intBin, strBin, eqv, eqMany, eq1, AV.asBool, AV.asInt, AV.asNat, AV.asPtr, AV.asStr, resVals, ResV.val, oneOr, wants, skipped, fillAt, putAt, capOf, optNat, bnd, Nat.reduceBEq, reduceIte, Nat.reduceAdd, Nat.reduceLeDiff, Nat.reduceEqDiff, Nat.reduceSub, Nat.reduceMul, Nat.reduceDiv, SOper.again, same, sameBlk, sameCap, Nat.reduceBneDiff, s_draw2, s_pair, k_pair, asunder, SOper.into, Bool.not_false, Bool.not_true, r0, r4, r6, r13, r14, r15, r18]

set_option maxHeartbeats 4000000 in
theorem make_let (k q : Int) (l : List Raw) (hw : within k 16 = 10 ∨ within k 16 = 11 ∨ within k 16 = 12) (hp : PartOk (.mk k q l)) : MakeOk (.mk k q l) := fun sc m hsc hne hm => by
  rw [Raw.cnt] at hm ⊢
  obtain ⟨q0, q1⟩ := within_range q 2 (by decide) (by decide)
  obtain ⟨N, hN, hN1, hN2⟩ : ∃ N : Nat, IntKind.i64.wrap (1 + within q 2) = (N : Int) ∧ 1 ≤ N ∧ N ≤ 2 := ⟨1 + (within q 2).toNat, by rw [wrap64 (by omega) (by omega)]; omega, by omega, by omega⟩
  have hlen2 : (sc ++ vds m N).length = sc.length + N := by rw [List.length_append, vds_len]
  have hne2 : ∀ s ∈ sc ++ vds m N, s ≠ [] := fun s hs => range_names rfl s hs hne
  have hscn : sc ++ vds m N ≠ [] := by intro e; have := congrArg List.length e; rw [hlen2] at this; simp at this; omega
  obtain ⟨es, ms, hlen, hm0, hmle, hgd, hnd, hms, hev⟩ := parts_ok hp (sc ++ vds m N) (m + N) (by omega) hne2 (by simp only [Raw.l]; omega) (N + 1) (by omega)
  simp only [Raw.l] at hnd hms
  have hle := cnts_take_le l (N + 1)
  refine ⟨.mk 9 [] (vds m N) es, ms (N + 1), ⟨.inr (.inr (.inr (.inr (.inr (.inr (.inr (.inr (.inl ⟨rfl, rfl, by rw [vds_len]; omega, by rw [vds_len]; exact hlen⟩)))))))), by omega, fun h => absurd h (by decide), by rw [vds_len], ?_⟩, ?_, by omega, ?_⟩
  · rw [vds_len]; exact hgd
  · rw [X.nodes, if_neg (by decide)]; omega
  refine Ev.succ (((run45 k 16 (by decide)).and ((run45 q 2 (by decide)).and (name31_all.and (hev.and (Ev.ge 10))))).mono fun n hn H k0 ty low g0 => ?_)
  obtain ⟨e1, e2, en, ee, hge⟩ := hn
  rw [call1_code (P := P3) (sf := c30) (code30 _ _) rfl]
  refine gives_settled ?_
  have hk0 := low.lt g0
  have n0 : ¬ k0 = H.n := by omega
  have n1 : ¬ k0 = H.n + 1 := by omega
  have n2 : ¬ k0 = H.n + 2 := by omega
  have n3 : ¬ k0 = H.n + 3 := by omega
  have low3 := (((low.push (ob := .row [.int .i64 k, .int .i64 q, vRaws l] 0 false (some 53))).push (ob := .row [.int .i64 0, .str [], .nils, .nils] 0 false (some 28))).push (ob := .row [.int .i64 0, .str [], .nils, .nils] 0 false (some 28))).put (j := H.n + 2) (by simp only [h_n]; omega) (ob := .row [.int .i64 9, .str [], .nils, .nils] 0 false (some 28))
  have low4 := low3.push (ob := .row [] 0 true none)
  obtain ⟨u, G1, happ, accu, lowG, hnG, hG, kpG⟩ := names_app low4 sc (by omega)
  simp only [h_n, h_nput] at hnG hG accu
  have hGg : ∀ j, j < H.n + 1 + 1 + 1 + 1 → G1.t.get j = _ := hG
  have fu := accu.flat
  have hG0 : G1.t.get H.n = some (.row [.int .i64 k, .int .i64 q, vRaws l] 0 false (some 53)) := by
    rw [hGg H.n (by omega)]; simp -implicitDefEqProofs only [↓v_lenS, SB, POp.val, AOp.val, WOp.val, Lite.bin, intBin, strBin, eqv, eqMany, eq1, AV.asBool, AV.asInt, AV.asNat, AV.asPtr, AV.asStr, resVals, ResV.val, oneOr, wants, skipped, fillAt, putAt, capOf, optNat, bnd, Nat.reduceBEq, reduceIte, Nat.reduceAdd, Nat.reduceLeDiff, Nat.reduceEqDiff, Nat.reduceSub, Nat.reduceMul, Nat.reduceDiv, SOper.again, same, sameBlk, sameCap, Nat.reduceBneDiff, s_draw2, s_pair, k_pair, asunder, SOper.into, Bool.not_false, Bool.not_true]
  generalize hW : within k 16 = w at *
  have hwe : (w == 0) = false ∧ (w == 1) = false ∧ (w == 2) = false ∧ (w == 3) = false ∧ (w == 4) = false ∧ (w == 5) = false ∧ (w == 6) = false ∧ (w == 7) = false ∧ (w == 8) = false ∧ (w == 9) = false := by
    rcases hw with rfl | rfl | rfl <;> decide
  obtain ⟨w0, w1, w2, w3, w4, w5, w6, w7, w8, w9⟩ := hwe
  rcases hw with rfl | rfl | rfl
  all_goals
    simp -implicitDefEqProofs only [c30, ↓v_lenS, SB, POp.val, AOp.val, WOp.val, Lite.bin, intBin, strBin, eqv, eqMany, eq1, AV.asBool, AV.asInt, AV.asNat, AV.asPtr, AV.asStr, resVals, ResV.val, oneOr, wants, skipped, fillAt, putAt, capOf, optNat, bnd, Nat.reduceBEq, reduceIte, Nat.reduceAdd, Nat.reduceLeDiff, Nat.reduceEqDiff, Nat.reduceSub, Nat.reduceMul, Nat.reduceDiv, SOper.again, same, sameBlk, sameCap, Nat.reduceBneDiff, s_draw2, s_pair, k_pair, asunder, SOper.into, Bool.not_false, Bool.not_true, CL, XS, softV_vStrs, Raw.cells_mk, len_vRaws, fl_vRaws, shutC_vRaws, e1, w0, w1, w2, w3, w4, w5, w6, w7, w8, w9, Int.reduceBEq, taken_vStrs, happ, hG0, e2, hN]
    refine loop_let (ty := ty) (k := k) (q := q) (l := l) (sc := sc) (m := m) (N := N) low hk0 (by omega) hge (by omega) (by omega) en _ _ ?_ fun fr H2 h r15 => ?_
    · refine ⟨⟨.nils, u, Acc.nil, ?_, Apart.nils, lowG, ?_, ?_⟩, ?_⟩
      · have hv0 : vds m 0 = [] := rfl
        rw [hv0, List.append_nil]
        exact accu.weak (by omega)
      · exact ((((HKeep.push low).pushed low).pushed low).own low (by omega) (by simp only [h_n]; omega) |>.pushed low).trans (kpG.mono fun _ _ _ h => h.elim)
      · simp -implicitDefEqProofs only [↓v_lenS, SB, POp.val, AOp.val, WOp.val, Lite.bin, intBin, strBin, eqv, eqMany, eq1, AV.asBool, AV.asInt, AV.asNat, AV.asPtr, AV.asStr, resVals, ResV.val, oneOr, wants, skipped, fillAt, putAt, capOf, optNat, bnd, Nat.reduceBEq, reduceIte, Nat.reduceAdd, Nat.reduceLeDiff, Nat.reduceEqDiff, Nat.reduceSub, Nat.reduceMul, Nat.reduceDiv, SOper.again, same, sameBlk, sameCap, Nat.reduceBneDiff, s_draw2, s_pair, k_pair, asunder, SOper.into, Bool.not_false, Bool.not_true, hGg k0 (by omega), hGg H.n (by omega), hGg (H.n + 1) (by omega), hGg (H.n + 2) (by omega), g0, n0, n1, n2, n3, Nat.add_zero]
        rfl
      · simp -implicitDefEqProofs only [↓v_lenS, SB, POp.val, AOp.val, WOp.val, Lite.bin, intBin, strBin, eqv, eqMany, eq1, AV.asBool, AV.asInt, AV.asNat, AV.asPtr, AV.asStr, resVals, ResV.val, oneOr, wants, skipped, fillAt, putAt, capOf, optNat, bnd, Nat.reduceBEq, reduceIte, Nat.reduceAdd, Nat.reduceLeDiff, Nat.reduceEqDiff, Nat.reduceSub, Nat.reduceMul, Nat.reduceDiv, SOper.again, same, sameBlk, sameCap, Nat.reduceBneDiff, s_draw2, s_pair, k_pair, asunder, SOper.into, Bool.not_false, Bool.not_true]
    · obtain ⟨v, u, accv, accu, hap, low2, kp, gk, r0, r4, r6, re, ru, ri, gb0, gb1, gb2⟩ := h
      obtain ⟨ku, rfl, hku, gu⟩ := (accu.acc hscn).slice (by rw [hlen2]; omega)
      have hz : (N : Int) = ((vds m N).length : Int) := by rw [vds_len]
      simp -implicitDefEqProofs only [↓v_lenS, SB, POp.val, AOp.val, WOp.val, Lite.bin, intBin, strBin, eqv, eqMany, eq1, AV.asBool, AV.asInt, AV.asNat, AV.asPtr, AV.asStr, resVals, ResV.val, oneOr, wants, skipped, fillAt, putAt, capOf, optNat, bnd, Nat.reduceBEq, reduceIte, Nat.reduceAdd, Nat.reduceLeDiff, Nat.reduceEqDiff, Nat.reduceSub, Nat.reduceMul, Nat.reduceDiv, SOper.again, same, sameBlk, sameCap, Nat.reduceBneDiff, s_draw2, s_pair, k_pair, asunder, SOper.into, Bool.not_false, Bool.not_true, CL, XS]
      refine loop_parts (ty := ty) (k := k) (q := q) (l := l) (ns := vds m N) (sc := sc ++ vds m N) (es := es) (ms := ms) low hk0 (by rw [vds_len]; exact hlen) (by rw [vds_len]; omega) hge hscn (by rw [vds_len]; exact ee) _ _ ?_ fun fr H2 h => ?_
      · refine ⟨.nils, v, ku, false, Acc.nil, by rw [vds_len]; exact accv, hku, hap, gu, low2, kp, by rw [gk, hm0], ?_, ?_, ?_, ?_, ?_, ?_, ?_, gb0, gb1, gb2⟩
        · simp -implicitDefEqProofs only [↓v_lenS, SB, POp.val, AOp.val, WOp.val, Lite.bin, intBin, strBin, eqv, eqMany, eq1, AV.asBool, AV.asInt, AV.asNat, AV.asPtr, AV.asStr, resVals, ResV.val, oneOr, wants, skipped, fillAt, putAt, capOf, optNat, bnd, Nat.reduceBEq, reduceIte, Nat.reduceAdd, Nat.reduceLeDiff, Nat.reduceEqDiff, Nat.reduceSub, Nat.reduceMul, Nat.reduceDiv, SOper.again, same, sameBlk, sameCap, Nat.reduceBneDiff, s_draw2, s_pair, k_pair, asunder, SOper.into, Bool.not_false, Bool.not_true, r0]
        · simp -implicitDefEqProofs only [↓v_lenS, SB, POp.val, AOp.val, WOp.val, Lite.bin, intBin, strBin, eqv, eqMany, eq1, AV.asBool, AV.asInt, AV.asNat, AV.asPtr, AV.asStr, resVals, ResV.val, oneOr, wants, skipped, fillAt, putAt, capOf, optNat, bnd, Nat.reduceBEq, reduceIte, Nat.reduceAdd, Nat.reduceLeDiff, Nat.reduceEqDiff, Nat.reduceSub, Nat.reduceMul, Nat.reduceDiv, SOper.again, same, sameBlk, sameCap, Nat.reduceBneDiff, s_draw2, s_pair, k_pair, asunder, SOper.into, Bool.not_false, Bool.not_true, r4]
        · simp -implicitDefEqProofs only [↓v_lenS, SB, POp.val, AOp.val, WOp.val, Lite.bin, intBin, strBin, eqv, eqMany, eq1, AV.asBool, AV.asInt, AV.asNat, AV.asPtr, AV.asStr, resVals, ResV.val, oneOr, wants, skipped, fillAt, putAt, capOf, optNat, bnd, Nat.reduceBEq, reduceIte, Nat.reduceAdd, Nat.reduceLeDiff, Nat.reduceEqDiff, Nat.reduceSub, Nat.reduceMul, Nat.reduceDiv, SOper.again, same, sameBlk, sameCap, Nat.reduceBneDiff, s_draw2, s_pair, k_pair, asunder, SOper.into, Bool.not_false, Bool.not_true, r6]
        · simp -implicitDefEqProofs only [↓v_lenS, SB, POp.val, AOp.val, WOp.val, Lite.bin, intBin, strBin, eqv, eqMany, eq1, AV.asBool, AV.asInt, AV.asNat, AV.asPtr, AV.asStr, resVals, ResV.val, oneOr, wants, skipped, fillAt, putAt, capOf, optNat, bnd, Nat.reduceBEq, reduceIte, Nat.reduceAdd, Nat.reduceLeDiff, Nat.reduceEqDiff, Nat.reduceSub, Nat.reduceMul, Nat.reduceDiv, SOper.again, same, sameBlk, sameCap, Nat.reduceBneDiff, s_draw2, s_pair, k_pair, asunder, SOper.into, Bool.not_false, Bool.not_true, re]
        · simp -implicitDefEqProofs only [↓v_lenS, SB, POp.val, AOp.val, WOp.val, Lite.bin, intBin, strBin, eqv, eqMany, eq1, AV.asBool, AV.asInt, AV.asNat, AV.asPtr, AV.asStr, resVals, ResV.val, oneOr, wants, skipped, fillAt, putAt, capOf, optNat, bnd, Nat.reduceBEq, reduceIte, Nat.reduceAdd, Nat.reduceLeDiff, Nat.reduceEqDiff, Nat.reduceSub, Nat.reduceMul, Nat.reduceDiv, SOper.again, same, sameBlk, sameCap, Nat.reduceBneDiff, s_draw2, s_pair, k_pair, asunder, SOper.into, Bool.not_false, Bool.not_true, ru]
        · simp -implicitDefEqProofs only [↓v_lenS, SB, POp.val, AOp.val, WOp.val, Lite.bin, intBin, strBin, eqv, eqMany, eq1, AV.asBool, AV.asInt, AV.asNat, AV.asPtr, AV.asStr, resVals, ResV.val, oneOr, wants, skipped, fillAt, putAt, capOf, optNat, bnd, Nat.reduceBEq, reduceIte, Nat.reduceAdd, Nat.reduceLeDiff, Nat.reduceEqDiff, Nat.reduceSub, Nat.reduceMul, Nat.reduceDiv, SOper.again, same, sameBlk, sameCap, Nat.reduceBneDiff, s_draw2, s_pair, k_pair, asunder, SOper.into, Bool.not_false, Bool.not_true, r15, vds_len]
        · simp -implicitDefEqProofs only [↓v_lenS, SB, POp.val, AOp.val, WOp.val, Lite.bin, intBin, strBin, eqv, eqMany, eq1, AV.asBool, AV.asInt, AV.asNat, AV.asPtr, AV.asStr, resVals, ResV.val, oneOr, wants, skipped, fillAt, putAt, capOf, optNat, bnd, Nat.reduceBEq, reduceIte, Nat.reduceAdd, Nat.reduceLeDiff, Nat.reduceEqDiff, Nat.reduceSub, Nat.reduceMul, Nat.reduceDiv, SOper.again, same, sameBlk, sameCap, Nat.reduceBneDiff, s_draw2, s_pair, k_pair, asunder, SOper.into, Bool.not_false, Bool.not_true]
          rfl
      · obtain ⟨a, v, ku, fz, acca, accv, hku, hap, gu, low2, kp, gk, r0, r4, r6, r13, r14, r15, r18, gb0, gb1, gb2⟩ := h
        rw [vds_len] at acca gk
        rw [List.take_of_length_le (by omega), ← hlen] at acca
        have fv := accv.flat
        have fa := acca.flat
        have kp7 := kp.own low (j := H.n + 1) (by omega) (low2.lt gb1) (ob := .row [.int .i64 9, .str [], v, a] 0 false (some 28))
        have accv7 := accv.put (by decide) gb1 (ob := .row [.int .i64 9, .str [], v, a] 0 false (some 28))
        have acca7 := acca.put (by decide) gb1 (ob := .row [.int .i64 9, .str [], v, a] 0 false (some 28))
        obtain ⟨H8, hsh, kp8⟩ := accv7.shut (d := 63) (by decide) (Still.flat str1_still _)
        have acca8 := accv7.other acca7 (by decide) kp8
        have kp8' := accv7.keeps kp7 low kp8
        obtain ⟨H9, hsh9, kp9⟩ := acca8.shut (d := 63) (by decide) (Still.flat X.still _)
        rw [L_vStrs] at hsh
        rw [L_vXs] at hsh9
        simp -implicitDefEqProofs only [↓v_lenS, SB, POp.val, AOp.val, WOp.val, Lite.bin, intBin, strBin, eqv, eqMany, eq1, AV.asBool, AV.asInt, AV.asNat, AV.asPtr, AV.asStr, resVals, ResV.val, oneOr, wants, skipped, fillAt, putAt, capOf, optNat, bnd, Nat.reduceBEq, reduceIte, Nat.reduceAdd, Nat.reduceLeDiff, Nat.reduceEqDiff, Nat.reduceSub, Nat.reduceMul, Nat.reduceDiv, SOper.again, same, sameBlk, sameCap, Nat.reduceBneDiff, s_draw2, s_pair, k_pair, asunder, SOper.into, Bool.not_false, Bool.not_true, CL, XS, r0, r4, r6, r13, r14, r15, fv, fa, gb1, gb2, gives_ret, hsh, hsh9]
        refine ⟨_, _, rfl, rfl, ?_, acca8.keeps kp8' low kp9⟩
        refine acca8.row (by decide) kp9 (accv7.row (by decide) kp8 ?_)
        rw [h_gput, if_neg n1]
        exact gk

end Go.Lite

/-
  The maker makes right terms; a closed term of raw ones.
-/
namespace Go.Lite
open Go Go.Proofs
set_option maxRecDepth 100000
set_option linter.unusedSimpArgs false
set_option linter.unusedVariables false

theorem make30 : ∀ r : Raw, r.fit → MakeOk r := Raw.indA fun k q l ih hf => by
  obtain ⟨f1, f2⟩ := hf
  have f2 := (Raw.fits_iff l).1 f2
  have hp : PartOk (.mk k q l) := part46 k q l f1 fun r hr => ih r hr (f2 r hr)
  obtain ⟨w0, w1⟩ := within_range k 16 (by decide) (by decide)
  by_cases h0 : within k 16 = 0
  · exact make_int k q l h0
  by_cases h1 : within k 16 = 1
  · exact make_atom k q l h1
  by_cases h2 : within k 16 = 2 ∨ within k 16 = 3
  · exact make_var k q l h2
  by_cases h3 : within k 16 = 4 ∨ within k 16 = 5
  · exact make_lam k q l h3 hp
  by_cases h4 : within k 16 = 6 ∨ within k 16 = 7 ∨ within k 16 = 8
  · exact make_app k q l h4 hp
  by_cases h5 : within k 16 = 9
  · exact make_if k q l h5 hp
  by_cases h6 : within k 16 = 10 ∨ within k 16 = 11 ∨ within k 16 = 12
  · exact make_let k q l h6 hp
  · exact make_prim k q l (by omega) hp

theorem makes_ok : ∀ (rs : List Raw), Raw.fits rs → ∀ (sc : List Str) (m : Nat), sc.length ≤ m + 10 → (∀ s ∈ sc, s ≠ []) → m + 2 * Raw.cnts rs < 100 →
    ∃ (es : List X) (ms : Nat → Nat), es.length = rs.length ∧ ms 0 = m ∧ m ≤ ms rs.length ∧ X.goods es sc m (ms rs.length) ∧ X.nodess es ≤ Raw.cnts rs ∧ ms rs.length ≤ m + 2 * Raw.cnts rs ∧
      Ev fun n => ∀ j r e, rs[j]? = some r → es[j]? = some e → Makes 30 [.agg r.cells, vStrs sc] (ms j) e (ms (j + 1)) n
  | [], _, sc, m, _, _, _ => ⟨[], fun _ => m, rfl, rfl, Nat.le_refl _, rfl, by simp [X.nodess], by simp, Ev.of fun n j r e h => by simp at h⟩
  | r :: rs, hf, sc, m, hsc, hne, hm => by
    obtain ⟨f1, f2⟩ := hf
    rw [Raw.cnts] at hm ⊢
    obtain ⟨e, m', g1, g2, g3, g4⟩ := make30 r f1 sc m hsc hne (by omega)
    have hle := (good_bnd e sc m m' g1).1
    obtain ⟨es, ms, h1, h2, h3, h4, h5, h6, h7⟩ := makes_ok rs f2 sc m' (by omega) hne (by omega)
    refine ⟨e :: es, fun j => match j with | 0 => m | j + 1 => ms j, by simp [h1], rfl, ?_, ⟨m', g1, h4⟩, ?_, ?_, (g4.and h7).mono fun n hn j r' e' hr he => ?_⟩
    · simp only [List.length_cons]; omega
    · rw [X.nodess]; omega
    · simp only [List.length_cons]; omega
    · obtain ⟨n1, n2⟩ := hn
      cases j with
      | zero =>
        simp only [List.getElem?_cons_zero, Option.some.injEq] at hr he
        subst hr; subst he
        simp only []
        rw [h2]; exact n1
      | succ j => exact n2 j r' e' (by simpa using hr) (by simpa using he)

theorem vds_ne {m N : Nat} (h : 1 ≤ N) : vds m N ≠ [] := fun e => by
  have := congrArg List.length e
  rw [vds_len, List.length_nil] at this
  omega

theorem cnts_append (a b : List Raw) : Raw.cnts (a ++ b) = Raw.cnts a + Raw.cnts b := by
  induction a with
  | nil => simp [Raw.cnts]
  | cons x a ih => simp only [List.cons_append, Raw.cnts, ih]; omega

/-- ahead of round i: names are bound -/
def TermInvA (l : List Raw) (i : Nat) (fr : Fr) (H : Heap) : Prop :=
  ∃ v, Acc 3 H 9 1 i ((vds 0 i).flatMap str1) v ∧ HLow H ∧ fr 0 = vRaws l ∧ fr 2 = .ptr (.new 0) 0 ∧ fr 3 = .ptr (.new 1) 0 ∧ fr 4 = .ptr (.new 2) 0 ∧ fr 5 = .int .i64 (i + 1 : Nat) ∧
    H.t.get 0 = some (.row [.int .i64 0, .str [], .nils, .nils] 0 false (some 28)) ∧ H.t.get 1 = some (.row [.int .i64 i] 0 false (some 50)) ∧ H.t.get 2 = some (.row [.int .i64 9, .str [], v, .nils] 0 false (some 28))

/-- how many are bound -/
def boundN (n : Nat) : Nat := min (n - 1) 4

set_option maxHeartbeats 4000000 in
theorem loop_termA {n : Nat} {l : List Raw} {KK : Ex → Fr → Heap → R} {Q : AV → Heap → Prop} (hl2 : 2 ≤ l.length) (hge : 10 ≤ n)
    (en : ∀ b ∈ List.range 100, b + 1 < 100 → ∀ (H : Heap) (k0 : Nat) (ty : Option Nat), HLow H → H.t.get k0 = some (.row [.int .i64 b] 0 false ty) → Gives (call1 P3 n 31 [.ptr (.new k0) 0] H) fun v H' => v = .str (vdot (b + 1)) ∧ H'.t.get k0 = some (.row [.int .i64 (b + 1 : Nat)] 0 false ty) ∧ HKeep (only k0) H H')
    (fr : Fr) (H : Heap) (h : TermInvA l 0 fr H) (hend : ∀ fr H, TermInvA l (boundN l.length) fr H → Gives (KK (.exit 0) fr H) Q) :
    Gives (loopR (callN P3 n) n c12_l0 n fr H KK) Q := by
  have hb1 : boundN l.length ≤ 4 := by unfold boundN; omega
  have hb2 : boundN l.length < l.length := by unfold boundN; omega
  have hb3 : ¬ boundN l.length + 1 < l.length ∨ boundN l.length = 4 := by unfold boundN; omega
  generalize boundN l.length = N at *
  refine loop_rounds N (fun i fr H => TermInvA l i fr H) ?_ ?_ n 0 _ _ (by omega) (by omega) h
  · rintro i fr H K' hi ⟨v, acc, low, r0, r2, r3, r4, r5, g0, g1, g2⟩ hKe hKr hK
    have hlt : ((i + 1 : Nat) : Int) < (l.length : Int) := by omega
    have hlt5 : ((i + 1 : Nat) : Int) < 5 := by omega
    have hw : IntKind.i64.wrap (((i + 1 : Nat) : Int) + 1) = ((i + 1 + 1 : Nat) : Int) := wrap_succ (n := 10) (by omega) (by omega)
    have e5 := en i (List.mem_range.2 (by omega)) (by omega) H 1 (some 50) low g1
    have fv := acc.flat
    simp -implicitDefEqProofs only [c12_l0, ↓v_lenS, SB, POp.val, AOp.val, WOp.val, Lite.bin, intBin, strBin, eqv, eqMany, eq1, AV.asBool, AV.asInt, AV.asNat, AV.asPtr, AV.asStr, resVals, ResV.val, oneOr, wants, skipped, fillAt, putAt, capOf, optNat, bnd, Nat.reduceBEq, reduceIte, Nat.reduceAdd, Nat.reduceLeDiff, Nat.reduceEqDiff, Nat.reduceSub, Nat.reduceMul, Nat.reduceDiv, SOper.again, same, sameBlk, sameCap, Nat.reduceBneDiff, s_draw2, s_pair, k_pair, asunder, SOper.into, Bool.not_false, Bool.not_true, CL, XS, len_vRaws, fl_vRaws, shutC_vRaws, r0, r2, r3, r4, r5, g0, g1, g2, hlt, hlt5]
    refine gives_call e5 ?_
    rintro w H5 ⟨rfl, gk5, kp5⟩
    have low5 := kp5.low low
    have gc0 := kp5.get _ _ g0 (only_row (by decide))
    have gc2 := kp5.get _ _ g2 (only_row (by decide))
    have acc5 : Acc 3 H5 9 1 i ((vds 0 i).flatMap str1) v := acc.keep fun j o hb hj => by
      rw [hj]
      refine kp5.get j _ hj ?_
      intro e; rw [e, g1] at hj; simp at hj
    have hlow5 := low5.push (ob := .row [.str (vdot (i + 1))] 0 true none)
    have acc5' := acc5.push low5 (ob := .row [.str (vdot (i + 1))] 0 true none)
    obtain ⟨H7, happ, acc7, kp7, low7, hn7⟩ := acc5'.one_more (e := 9) (bs := 16) (ys := [.str (vdot (i + 1))]) (by simp only [h_n]; have := low5.lt gc2; omega) hlow5 (by decide) rfl rfl (by omega)
    have car : ∀ j cs tt, H5.t.get j = some (.row cs 0 false tt) → H7.t.get j = some (.row cs 0 false tt) := fun j cs tt hg =>
      acc5'.row (by decide) kp7 (by rw [h_get, if_neg (by have := low5.lt hg; omega)]; exact hg)
    have gd2 := car _ _ _ gc2
    simp only [h_n] at happ acc7
    simp -implicitDefEqProofs only [↓v_lenS, SB, POp.val, AOp.val, WOp.val, Lite.bin, intBin, strBin, eqv, eqMany, eq1, AV.asBool, AV.asInt, AV.asNat, AV.asPtr, AV.asStr, resVals, ResV.val, oneOr, wants, skipped, fillAt, putAt, capOf, optNat, bnd, Nat.reduceBEq, reduceIte, Nat.reduceAdd, Nat.reduceLeDiff, Nat.reduceEqDiff, Nat.reduceSub, Nat.reduceMul, Nat.reduceDiv, SOper.again, same, sameBlk, sameCap, Nat.reduceBneDiff, s_draw2, s_pair, k_pair, asunder, SOper.into, Bool.not_false, Bool.not_true, CL, XS, r0, r2, r3, r4, r5, gc0, gc2, fv, k_taken, happ, gd2, hw]
    refine hK _ _ ⟨.slice (.new (H5.n + 1)) 0 (i + 1) (.gro 1), ?_, low7.put (low7.lt gd2), ?_, ?_, ?_, ?_, ?_, ?_, ?_, ?_⟩
    · rw [vds_snoc, flat_snoc, Nat.zero_add]; exact acc7.put (by decide) gd2
    · simp -implicitDefEqProofs only [↓v_lenS, SB, POp.val, AOp.val, WOp.val, Lite.bin, intBin, strBin, eqv, eqMany, eq1, AV.asBool, AV.asInt, AV.asNat, AV.asPtr, AV.asStr, resVals, ResV.val, oneOr, wants, skipped, fillAt, putAt, capOf, optNat, bnd, Nat.reduceBEq, reduceIte, Nat.reduceAdd, Nat.reduceLeDiff, Nat.reduceEqDiff, Nat.reduceSub, Nat.reduceMul, Nat.reduceDiv, SOper.again, same, sameBlk, sameCap, Nat.reduceBneDiff, s_draw2, s_pair, k_pair, asunder, SOper.into, Bool.not_false, Bool.not_true, r0]
    · simp -implicitDefEqProofs only [↓v_lenS, SB, POp.val, AOp.val, WOp.val, Lite.bin, intBin, strBin, eqv, eqMany, eq1, AV.asBool, AV.asInt, AV.asNat, AV.asPtr, AV.asStr, resVals, ResV.val, oneOr, wants, skipped, fillAt, putAt, capOf, optNat, bnd, Nat.reduceBEq, reduceIte, Nat.reduceAdd, Nat.reduceLeDiff, Nat.reduceEqDiff, Nat.reduceSub, Nat.reduceMul, Nat.reduceDiv, SOper.again, same, sameBlk, sameCap, Nat.reduceBneDiff, s_draw2, s_pair, k_pair, asunder, SOper.into, Bool.not_false, Bool.not_true, r2]
    · simp -implicitDefEqProofs only [↓v_lenS, SB, POp.val, AOp.val, WOp.val, Lite.bin, intBin, strBin, eqv, eqMany, eq1, AV.asBool, AV.asInt, AV.asNat, AV.asPtr, AV.asStr, resVals, ResV.val, oneOr, wants, skipped, fillAt, putAt, capOf, optNat, bnd, Nat.reduceBEq, reduceIte, Nat.reduceAdd, Nat.reduceLeDiff, Nat.reduceEqDiff, Nat.reduceSub, Nat.reduceMul, Nat.reduceDiv, SOper.again, same, sameBlk, sameCap, Nat.reduceBneDiff, s_draw2, s_pair, k_pair, asunder, SOper.into, Bool.not_false, Bool.not_true, r3]
    · simp -implicitDefEqProofs only [↓v_lenS, SB, POp.val, AOp.val, WOp.val, Lite.bin, intBin, strBin, eqv, eqMany, eq1, AV.asBool, AV.asInt, AV.asNat, AV.asPtr, AV.asStr, resVals, ResV.val, oneOr, wants, skipped, fillAt, putAt, capOf, optNat, bnd, Nat.reduceBEq, reduceIte, Nat.reduceAdd, Nat.reduceLeDiff, Nat.reduceEqDiff, Nat.reduceSub, Nat.reduceMul, Nat.reduceDiv, SOper.again, same, sameBlk, sameCap, Nat.reduceBneDiff, s_draw2, s_pair, k_pair, asunder, SOper.into, Bool.not_false, Bool.not_true, r4]
    · simp -implicitDefEqProofs only [↓v_lenS, SB, POp.val, AOp.val, WOp.val, Lite.bin, intBin, strBin, eqv, eqMany, eq1, AV.asBool, AV.asInt, AV.asNat, AV.asPtr, AV.asStr, resVals, ResV.val, oneOr, wants, skipped, fillAt, putAt, capOf, optNat, bnd, Nat.reduceBEq, reduceIte, Nat.reduceAdd, Nat.reduceLeDiff, Nat.reduceEqDiff, Nat.reduceSub, Nat.reduceMul, Nat.reduceDiv, SOper.again, same, sameBlk, sameCap, Nat.reduceBneDiff, s_draw2, s_pair, k_pair, asunder, SOper.into, Bool.not_false, Bool.not_true]
    · rw [h_gput, if_neg (by decide)]; exact car _ _ _ gc0
    · rw [h_gput, if_neg (by decide)]; exact car _ _ _ gk5
    · rw [h_gput, if_pos rfl]
  · rintro fr H K' h hKe hKr
    have h' := h
    obtain ⟨v, acc, low, r0, r2, r3, r4, r5, g0, g1, g2⟩ := h
    rcases hb3 with hb3 | hb3
    · have hlt : ¬ ((N + 1 : Nat) : Int) < (l.length : Int) := by omega
      simp -implicitDefEqProofs only [c12_l0, ↓v_lenS, SB, POp.val, AOp.val, WOp.val, Lite.bin, intBin, strBin, eqv, eqMany, eq1, AV.asBool, AV.asInt, AV.asNat, AV.asPtr, AV.asStr, resVals, ResV.val, oneOr, wants, skipped, fillAt, putAt, capOf, optNat, bnd, Nat.reduceBEq, reduceIte, Nat.reduceAdd, Nat.reduceLeDiff, Nat.reduceEqDiff, Nat.reduceSub, Nat.reduceMul, Nat.reduceDiv, SOper.again, same, sameBlk, sameCap, Nat.reduceBneDiff, s_draw2, s_pair, k_pair, asunder, SOper.into, Bool.not_false, Bool.not_true, CL, XS, len_vRaws, r0, r2, r3, r4, r5, g0, g1, g2, hlt, hKe]
      refine hend _ _ ⟨v, acc, low, ?_, ?_, ?_, ?_, ?_, g0, g1, g2⟩ <;> simp -implicitDefEqProofs only [↓v_lenS, SB, POp.val, AOp.val, WOp.val, Lite.bin, intBin, strBin, eqv, eqMany, eq1, AV.asBool, AV.asInt, AV.asNat, AV.asPtr, AV.asStr, resVals, ResV.val, oneOr, wants, skipped, fillAt, putAt, capOf, optNat, bnd, Nat.reduceBEq, reduceIte, Nat.reduceAdd, Nat.reduceLeDiff, Nat.reduceEqDiff, Nat.reduceSub, Nat.reduceMul, Nat.reduceDiv, SOper.again, same, sameBlk, sameCap, Nat.reduceBneDiff, s_draw2, s_pair, k_pair, asunder, SOper.into, Bool.not_false, Bool.not_true, r0, r2, r3, r4, r5]
    · by_cases hlt : ((N + 1 : Nat) : Int) < (l.length : Int)
      · have h5 : ¬ ((N + 1 : Nat) : Int) < 5 := by omega
        simp -implicitDefEqProofs only [c12_l0, ↓v_lenS, SB, POp.val, AOp.val, WOp.val, Lite.bin, intBin, strBin, eqv, eqMany, eq1, AV.asBool, AV.asInt, AV.asNat, AV.asPtr, AV.asStr, resVals, ResV.val, oneOr, wants, skipped, fillAt, putAt, capOf, optNat, bnd, Nat.reduceBEq, reduceIte, Nat.reduceAdd, Nat.reduceLeDiff, Nat.reduceEqDiff, Nat.reduceSub, Nat.reduceMul, Nat.reduceDiv, SOper.again, same, sameBlk, sameCap, Nat.reduceBneDiff, s_draw2, s_pair, k_pair, asunder, SOper.into, Bool.not_false, Bool.not_true, CL, XS, len_vRaws, r0, r2, r3, r4, r5, g0, g1, g2, hlt, h5, hKe]
        refine hend _ _ ⟨v, acc, low, ?_, ?_, ?_, ?_, ?_, g0, g1, g2⟩ <;> simp -implicitDefEqProofs only [↓v_lenS, SB, POp.val, AOp.val, WOp.val, Lite.bin, intBin, strBin, eqv, eqMany, eq1, AV.asBool, AV.asInt, AV.asNat, AV.asPtr, AV.asStr, resVals, ResV.val, oneOr, wants, skipped, fillAt, putAt, capOf, optNat, bnd, Nat.reduceBEq, reduceIte, Nat.reduceAdd, Nat.reduceLeDiff, Nat.reduceEqDiff, Nat.reduceSub, Nat.reduceMul, Nat.reduceDiv, SOper.again, same, sameBlk, sameCap, Nat.reduceBneDiff, s_draw2, s_pair, k_pair, asunder, SOper.into, Bool.not_false, Bool.not_true, r0, r2, r3, r4, r5]
      · simp -implicitDefEqProofs only [c12_l0, ↓v_lenS, SB, POp.val, AOp.val, WOp.val, Lite.bin, intBin, strBin, eqv, eqMany, eq1, AV.asBool, AV.asInt, AV.asNat, AV.asPtr, AV.asStr, resVals, ResV.val, oneOr, wants, skipped, fillAt, putAt, capOf, optNat, bnd, Nat.reduceBEq, reduceIte, Nat.reduceAdd, Nat.reduceLeDiff, Nat.reduceEqDiff, Nat.reduceSub, Nat.reduceMul, Nat.reduceDiv, SOper.again, same, sameBlk, sameCap, Nat.reduceBneDiff, s_draw2, s_pair, k_pair, asunder, SOper.into, Bool.not_false, Bool.not_true, CL, XS, len_vRaws, r0, r2, r3, r4, r5, g0, g1, g2, hlt, hKe]
        refine hend _ _ ⟨v, acc, low, ?_, ?_, ?_, ?_, ?_, g0, g1, g2⟩ <;> simp -implicitDefEqProofs only [↓v_lenS, SB, POp.val, AOp.val, WOp.val, Lite.bin, intBin, strBin, eqv, eqMany, eq1, AV.asBool, AV.asInt, AV.asNat, AV.asPtr, AV.asStr, resVals, ResV.val, oneOr, wants, skipped, fillAt, putAt, capOf, optNat, bnd, Nat.reduceBEq, reduceIte, Nat.reduceAdd, Nat.reduceLeDiff, Nat.reduceEqDiff, Nat.reduceSub, Nat.reduceMul, Nat.reduceDiv, SOper.again, same, sameBlk, sameCap, Nat.reduceBneDiff, s_draw2, s_pair, k_pair, asunder, SOper.into, Bool.not_false, Bool.not_true, r0, r2, r3, r4, r5]

/-- ahead of round i: parts -/
def TermInvB (l : List Raw) (N : Nat) (es : List X) (ms : Nat → Nat) (i : Nat) (fr : Fr) (H : Heap) : Prop :=
  ∃ a kv fz, Acc 3 H 28 4 i ((es.take i).flatMap X.cells) a ∧ 3 ≤ kv ∧ H.t.get kv = some (.row ((vds 0 N).flatMap str1) 1 fz (some 9)) ∧ HLow H ∧ fr 0 = vRaws l ∧ fr 2 = .ptr (.new 0) 0 ∧ fr 3 = .ptr (.new 1) 0 ∧ fr 4 = .ptr (.new 2) 0 ∧ fr 6 = .int .i64 (i + 1 : Nat) ∧
    H.t.get 0 = some (.row [.int .i64 0, .str [], .nils, .nils] 0 false (some 28)) ∧ H.t.get 1 = some (.row [.int .i64 (ms i)] 0 false (some 50)) ∧ H.t.get 2 = some (.row [.int .i64 9, .str [], .slice (.new kv) 0 N (.gro 1), a] 0 false (some 28))

/-- one part more is made, and lies in the row -/
theorem termB_step {H H5 : Heap} {N kv i b : Nat} {fz : Bool} {es : List X} {x : X} {a : AV} (hx : es[i]? = some x) (hi : i ≤ 10) (acc : Acc 3 H 28 4 i ((es.take i).flatMap X.cells) a) (hkv : 3 ≤ kv) (gv : H.t.get kv = some (.row ((vds 0 N).flatMap str1) 1 fz (some 9))) (low : HLow H)
    (g0 : H.t.get 0 = some (.row [.int .i64 0, .str [], .nils, .nils] 0 false (some 28))) (g2 : H.t.get 2 = some (.row [.int .i64 9, .str [], .slice (.new kv) 0 N (.gro 1), a] 0 false (some 28)))
    (gk5 : H5.t.get 1 = some (.row [.int .i64 b] 0 false (some 50))) (kp5 : HKeep (only 1) (H.put kv (.row ((vds 0 N).flatMap str1) 1 true (some 9))) H5) :
    H5.t.get 2 = some (.row [.int .i64 9, .str [], .slice (.new kv) 0 N (.gro 1), a] 0 false (some 28)) ∧ 2 < H5.n ∧ ∃ H7, appendOf 28 4 72 (H5.push (.row x.cells 0 true none)) a (1, x.cells) = some (.slice (.new (H5.n + 1)) 0 (i + 1) (.gro 4), H7) ∧ H7.t.get 2 = some (.row [.int .i64 9, .str [], .slice (.new kv) 0 N (.gro 1), a] 0 false (some 28)) ∧
      ∀ ob, (Acc 3 (H7.put 2 ob) 28 4 (i + 1) ((es.take (i + 1)).flatMap X.cells) (.slice (.new (H5.n + 1)) 0 (i + 1) (.gro 4)) ∧ (H7.put 2 ob).t.get kv = some (.row ((vds 0 N).flatMap str1) 1 true (some 9)) ∧ HLow (H7.put 2 ob) ∧
        (H7.put 2 ob).t.get 0 = some (.row [.int .i64 0, .str [], .nils, .nils] 0 false (some 28)) ∧ (H7.put 2 ob).t.get 1 = some (.row [.int .i64 b] 0 false (some 50))) := by
  have hnt : es.take (i + 1) = es.take i ++ [x] := by rw [List.take_add_one, hx]; rfl
  have low3 := low.put (low.lt gv) (ob := .row ((vds 0 N).flatMap str1) 1 true (some 9))
  have acc3 := acc.putT gv (by decide) (ob := .row ((vds 0 N).flatMap str1) 1 true (some 9))
  have low5 := kp5.low low3
  have gc0 := kp5.get 0 _ (by rw [h_gput, if_neg (by omega)]; exact g0) (only_row (by decide))
  have gc2 := kp5.get 2 _ (by rw [h_gput, if_neg (by omega)]; exact g2) (only_row (by decide))
  have gv5 := kp5.get kv _ (by rw [h_gput, if_pos rfl]) (only_row (by omega))
  have acc5 := acc3.kept kp5 fun j hj _ => only_row (by omega)
  have hn5 := low5.lt gc2
  have hlow5 := low5.push (ob := .row x.cells 0 true none)
  have acc5' := acc5.push low5 (ob := .row x.cells 0 true none)
  obtain ⟨H7, happ, acc7, kp7, low7, hn7⟩ := acc5'.one_more (e := 28) (bs := 72) (ys := x.cells) (by simp only [h_n]; omega) hlow5 (by decide) x.cells_len x.flat (by omega)
  have car : ∀ j cs tt, H5.t.get j = some (.row cs 0 false tt) → H7.t.get j = some (.row cs 0 false tt) := fun j cs tt hg =>
    acc5'.row (by decide) kp7 (by rw [h_get, if_neg (by have := low5.lt hg; omega)]; exact hg)
  have gv7 : H7.t.get kv = some (.row ((vds 0 N).flatMap str1) 1 true (some 9)) := by
    refine kp7.get kv _ (by rw [h_get, if_neg (by have := low5.lt gv5; omega)]; exact gv5) ?_
    rintro ⟨o, m, c, e⟩
    rcases acc5 with ⟨_, _, h⟩ | ⟨_, _, kk, h, _, h4⟩
    · rw [h] at e; cases e
    · rw [h] at e
      simp only [AV.slice.injEq, Blk.new.injEq] at e
      rw [e.1, gv5] at h4
      simp at h4
  have gd2 := car _ _ _ gc2
  simp only [h_n] at happ acc7
  refine ⟨gc2, hn5, H7, happ, gd2, fun ob => ⟨?_, ?_, low7.put (low7.lt gd2), ?_, ?_⟩⟩
  · rw [hnt, flat_snoc]; exact acc7.put (by decide) gd2
  · rw [h_gput, if_neg (by omega)]; exact gv7
  · rw [h_gput, if_neg (by decide)]; exact car _ _ _ gc0
  · rw [h_gput, if_neg (by decide)]; exact car _ _ _ gk5

theorem softV_rowN {H : Heap} {ku N : Nat} {fz : Bool} {ns : List Str} (hN : ns.length = N) (h : H.t.get ku = some (.row (ns.flatMap str1) 1 fz (some 9))) (hne : ns ≠ []) : softV (.slice (.new ku) 0 N (.gro 1)) H = some (vStrs ns, H.put ku (.row (ns.flatMap str1) 1 true (some 9))) := by
  subst hN
  exact softV_row h hne

theorem shutC_rowN {H : Heap} {ku N : Nat} {fz : Bool} {ns : List Str} (hN : ns.length = N) (h : H.t.get ku = some (.row (ns.flatMap str1) 1 fz (some 9))) (hne : ns ≠ []) : shutC 64 (.slice (.new ku) 0 N (.gro 1)) H = some (vStrs ns, H.put ku (.row (ns.flatMap str1) 1 true (some 9))) := by
  subst hN
  have hl : (ns.flatMap str1).length = ns.length * 1 := flat_len str1_len ns
  have ht : (ns.flatMap str1).take (ns.length * (Cap.gro 1).es) = ns.flatMap str1 := by
    show (ns.flatMap str1).take (ns.length * 1) = ns.flatMap str1
    rw [← hl, List.take_length]
  rw [shutC_sl (d := 63), h, shutRow_row, List.drop_zero]
  rw [if_pos (by rw [ht]; exact ⟨hl, .inr (by decide)⟩), ht, (Still.flat str1_still ns).map]
  simp only [Option.map_some]
  cases ns with
  | nil => exact absurd rfl hne
  | cons s ns => rfl

set_option maxHeartbeats 4000000 in
theorem loop_termB {n N : Nat} {l : List Raw} {es : List X} {ms : Nat → Nat} {KK : Ex → Fr → Heap → R} {Q : AV → Heap → Prop} (hN1 : 1 ≤ N) (hN4 : N ≤ 4) (hNl : N < l.length) (hb3 : ¬ N + 1 < l.length ∨ N = 4) (hlen : es.length = N + 1) (hge : 10 ≤ n)
    (ee : ∀ j r e, j < N → l[j + 1]? = some r → es[j]? = some e → Makes 30 [.agg r.cells, vStrs (vds 0 N)] (ms j) e (ms (j + 1)) n)
    (fr : Fr) (H : Heap) (h : TermInvB l N es ms 0 fr H) (hend : ∀ fr H, TermInvB l N es ms N fr H → Gives (KK (.exit 2) fr H) Q) :
    Gives (loopR (callN P3 n) n c12_l1 n fr H KK) Q := by
  refine loop_rounds N (fun i fr H => TermInvB l N es ms i fr H) ?_ ?_ n 0 _ _ (by omega) (by omega) h
  · rintro i fr H K' hi ⟨a, kv, fz, acc, hkv, gv, low, r0, r2, r3, r4, r6, g0, g1, g2⟩ hKe hKr hK
    have hlt : ((i + 1 : Nat) : Int) < (l.length : Int) := by omega
    have hlt5 : ((i + 1 : Nat) : Int) < 5 := by omega
    have hw : IntKind.i64.wrap (((i + 1 : Nat) : Int) + 1) = ((i + 1 + 1 : Nat) : Int) := wrap_succ (n := 10) (by omega) (by omega)
    obtain ⟨r, hr⟩ : ∃ r, l[i + 1]? = some r := ⟨l[i + 1], List.getElem?_eq_getElem (by omega)⟩
    obtain ⟨x, hx⟩ : ∃ x, es[i]? = some x := ⟨es[i], List.getElem?_eq_getElem (by omega)⟩
    have hsoft := softV_rowN (vds_len 0 N) gv (vds_ne hN1)
    have e5 := ee i r x hi hr hx (H.put kv (.row ((vds 0 N).flatMap str1) 1 true (some 9))) 1 (some 50) (low.put (low.lt gv)) (by rw [h_gput, if_neg (by omega)]; exact g1)
    have fa := acc.flat
    obtain ⟨kr, qr, lr⟩ := r
    have hxk := hx
    simp only [Raw.cells_mk] at e5
    have x1 : ¬ 2 = kv := by omega
    simp -implicitDefEqProofs only [c12_l1, ↓v_lenS, SB, POp.val, AOp.val, WOp.val, Lite.bin, intBin, strBin, eqv, eqMany, eq1, AV.asBool, AV.asInt, AV.asNat, AV.asPtr, AV.asStr, resVals, ResV.val, oneOr, wants, skipped, fillAt, putAt, capOf, optNat, bnd, Nat.reduceBEq, reduceIte, Nat.reduceAdd, Nat.reduceLeDiff, Nat.reduceEqDiff, Nat.reduceSub, Nat.reduceMul, Nat.reduceDiv, SOper.again, same, sameBlk, sameCap, Nat.reduceBneDiff, s_draw2, s_pair, k_pair, asunder, SOper.into, Bool.not_false, Bool.not_true, CL, XS, len_vRaws, fl_vRaws, shutC_vRaws, r0, r2, r3, r4, r6, g0, g1, g2, hlt, hlt5, iaddr_vRaws hr, Raw.cells_mk, hsoft]
    refine gives_call e5 ?_
    rintro w H5 ⟨rfl, gk5, kp5⟩
    obtain ⟨gc2, hn5, H7, happ, gd2, hrest⟩ := termB_step hx (by omega) acc hkv gv low g0 g2 gk5 kp5
    obtain ⟨kx, tx, nx, lx⟩ := x
    have x2 : ¬ 2 = H5.n := by omega
    simp only [X.cells_mk] at happ
    simp -implicitDefEqProofs only [↓v_lenS, SB, POp.val, AOp.val, WOp.val, Lite.bin, intBin, strBin, eqv, eqMany, eq1, AV.asBool, AV.asInt, AV.asNat, AV.asPtr, AV.asStr, resVals, ResV.val, oneOr, wants, skipped, fillAt, putAt, capOf, optNat, bnd, Nat.reduceBEq, reduceIte, Nat.reduceAdd, Nat.reduceLeDiff, Nat.reduceEqDiff, Nat.reduceSub, Nat.reduceMul, Nat.reduceDiv, SOper.again, same, sameBlk, sameCap, Nat.reduceBneDiff, s_draw2, s_pair, k_pair, asunder, SOper.into, Bool.not_false, Bool.not_true, CL, XS, r0, r2, r3, r4, r6, gc2, fa, k_taken, happ, gd2, hw]
    obtain ⟨p1, p2, p3, p4, p5⟩ := hrest (.row [.int .i64 9, .str [], .slice (.new kv) 0 N (.gro 1), .slice (.new (H5.n + 1)) 0 (i + 1) (.gro 4)] 0 false (some 28))
    refine hK _ _ ⟨_, kv, true, p1, hkv, p2, p3, ?_, ?_, ?_, ?_, ?_, p4, p5, by rw [h_gput, if_pos rfl]⟩
    · simp -implicitDefEqProofs only [↓v_lenS, SB, POp.val, AOp.val, WOp.val, Lite.bin, intBin, strBin, eqv, eqMany, eq1, AV.asBool, AV.asInt, AV.asNat, AV.asPtr, AV.asStr, resVals, ResV.val, oneOr, wants, skipped, fillAt, putAt, capOf, optNat, bnd, Nat.reduceBEq, reduceIte, Nat.reduceAdd, Nat.reduceLeDiff, Nat.reduceEqDiff, Nat.reduceSub, Nat.reduceMul, Nat.reduceDiv, SOper.again, same, sameBlk, sameCap, Nat.reduceBneDiff, s_draw2, s_pair, k_pair, asunder, SOper.into, Bool.not_false, Bool.not_true, r0]
    · simp -implicitDefEqProofs only [↓v_lenS, SB, POp.val, AOp.val, WOp.val, Lite.bin, intBin, strBin, eqv, eqMany, eq1, AV.asBool, AV.asInt, AV.asNat, AV.asPtr, AV.asStr, resVals, ResV.val, oneOr, wants, skipped, fillAt, putAt, capOf, optNat, bnd, Nat.reduceBEq, reduceIte, Nat.reduceAdd, Nat.reduceLeDiff, Nat.reduceEqDiff, Nat.reduceSub, Nat.reduceMul, Nat.reduceDiv, SOper.again, same, sameBlk, sameCap, Nat.reduceBneDiff, s_draw2, s_pair, k_pair, asunder, SOper.into, Bool.not_false, Bool.not_true, r2]
    · simp -implicitDefEqProofs only [↓v_lenS, SB, POp.val, AOp.val, WOp.val, Lite.bin, intBin, strBin, eqv, eqMany, eq1, AV.asBool, AV.asInt, AV.asNat, AV.asPtr, AV.asStr, resVals, ResV.val, oneOr, wants, skipped, fillAt, putAt, capOf, optNat, bnd, Nat.reduceBEq, reduceIte, Nat.reduceAdd, Nat.reduceLeDiff, Nat.reduceEqDiff, Nat.reduceSub, Nat.reduceMul, Nat.reduceDiv, SOper.again, same, sameBlk, sameCap, Nat.reduceBneDiff, s_draw2, s_pair, k_pair, asunder, SOper.into, Bool.not_false, Bool.not_true, r3]
    · simp -implicitDefEqProofs only [↓v_lenS, SB, POp.val, AOp.val, WOp.val, Lite.bin, intBin, strBin, eqv, eqMany, eq1, AV.asBool, AV.asInt, AV.asNat, AV.asPtr, AV.asStr, resVals, ResV.val, oneOr, wants, skipped, fillAt, putAt, capOf, optNat, bnd, Nat.reduceBEq, reduceIte, Nat.reduceAdd, Nat.reduceLeDiff, Nat.reduceEqDiff, Nat.reduceSub, Nat.reduceMul, Nat.reduceDiv, SOper.again, same, sameBlk, sameCap, Nat.reduceBneDiff, s_draw2, s_pair, k_pair, asunder, SOper.into, Bool.not_false, Bool.not_true, r4]
    · simp -implicitDefEqProofs only [↓v_lenS, SB, POp.val, AOp.val, WOp.val, Lite.bin, intBin, strBin, eqv, eqMany, eq1, AV.asBool, AV.asInt, AV.asNat, AV.asPtr, AV.asStr, resVals, ResV.val, oneOr, wants, skipped, fillAt, putAt, capOf, optNat, bnd, Nat.reduceBEq, reduceIte, Nat.reduceAdd, Nat.reduceLeDiff, Nat.reduceEqDiff, Nat.reduceSub, Nat.reduceMul, Nat.reduceDiv, SOper.again, same, sameBlk, sameCap, Nat.reduceBneDiff, s_draw2, s_pair, k_pair, asunder, SOper.into, Bool.not_false, Bool.not_true]
  · rintro fr H K' h hKe hKr
    obtain ⟨a, kv, fz, acc, hkv, gv, low, r0, r2, r3, r4, r6, g0, g1, g2⟩ := h
    rcases hb3 with hb3 | hb3
    · have hlt : ¬ ((N + 1 : Nat) : Int) < (l.length : Int) := by omega
      simp -implicitDefEqProofs only [c12_l1, ↓v_lenS, SB, POp.val, AOp.val, WOp.val, Lite.bin, intBin, strBin, eqv, eqMany, eq1, AV.asBool, AV.asInt, AV.asNat, AV.asPtr, AV.asStr, resVals, ResV.val, oneOr, wants, skipped, fillAt, putAt, capOf, optNat, bnd, Nat.reduceBEq, reduceIte, Nat.reduceAdd, Nat.reduceLeDiff, Nat.reduceEqDiff, Nat.reduceSub, Nat.reduceMul, Nat.reduceDiv, SOper.again, same, sameBlk, sameCap, Nat.reduceBneDiff, s_draw2, s_pair, k_pair, asunder, SOper.into, Bool.not_false, Bool.not_true, CL, XS, len_vRaws, r0, r2, r3, r4, r6, g0, g1, g2, hlt, hKe]
      refine hend _ _ ⟨a, kv, fz, acc, hkv, gv, low, ?_, ?_, ?_, ?_, ?_, g0, g1, g2⟩ <;> simp -implicitDefEqProofs only [↓v_lenS, SB, POp.val, AOp.val, WOp.val, Lite.bin, intBin, strBin, eqv, eqMany, eq1, AV.asBool, AV.asInt, AV.asNat, AV.asPtr, AV.asStr, resVals, ResV.val, oneOr, wants, skipped, fillAt, putAt, capOf, optNat, bnd, Nat.reduceBEq, reduceIte, Nat.reduceAdd, Nat.reduceLeDiff, Nat.reduceEqDiff, Nat.reduceSub, Nat.reduceMul, Nat.reduceDiv, SOper.again, same, sameBlk, sameCap, Nat.reduceBneDiff, s_draw2, s_pair, k_pair, asunder, SOper.into, Bool.not_false, Bool.not_true, r0, r2, r3, r4, r6]
    · by_cases hlt : ((N + 1 : Nat) : Int) < (l.length : Int)
      · have h5 : ¬ ((N + 1 : Nat) : Int) < 5 := by omega
        simp -implicitDefEqProofs only [c12_l1, ↓v_lenS, SB, POp.val, AOp.val, WOp.val, Lite.bin, intBin, strBin, eqv, eqMany, eq1, AV.asBool, AV.asInt, AV.asNat, AV.asPtr, AV.asStr, resVals, ResV.val, oneOr, wants, skipped, fillAt, putAt, capOf, optNat, bnd, Nat.reduceBEq, reduceIte, Nat.reduceAdd, Nat.reduceLeDiff, Nat.reduceEqDiff, Nat.reduceSub, Nat.reduceMul, Nat.reduceDiv, SOper.again, same, sameBlk, sameCap, Nat.reduceBneDiff, s_draw2, s_pair, k_pair, asunder, SOper.into, Bool.not_false, Bool.not_true, CL, XS, len_vRaws, r0, r2, r3, r4, r6, g0, g1, g2, hlt, h5, hKe]
        refine hend _ _ ⟨a, kv, fz, acc, hkv, gv, low, ?_, ?_, ?_, ?_, ?_, g0, g1, g2⟩ <;> simp -implicitDefEqProofs only [↓v_lenS, SB, POp.val, AOp.val, WOp.val, Lite.bin, intBin, strBin, eqv, eqMany, eq1, AV.asBool, AV.asInt, AV.asNat, AV.asPtr, AV.asStr, resVals, ResV.val, oneOr, wants, skipped, fillAt, putAt, capOf, optNat, bnd, Nat.reduceBEq, reduceIte, Nat.reduceAdd, Nat.reduceLeDiff, Nat.reduceEqDiff, Nat.reduceSub, Nat.reduceMul, Nat.reduceDiv, SOper.again, same, sameBlk, sameCap, Nat.reduceBneDiff, s_draw2, s_pair, k_pair, asunder, SOper.into, Bool.not_false, Bool.not_true, r0, r2, r3, r4, r6]
      · simp -implicitDefEqProofs only [c12_l1, ↓v_lenS, SB, POp.val, AOp.val, WOp.val, Lite.bin, intBin, strBin, eqv, eqMany, eq1, AV.asBool, AV.asInt, AV.asNat, AV.asPtr, AV.asStr, resVals, ResV.val, oneOr, wants, skipped, fillAt, putAt, capOf, optNat, bnd, Nat.reduceBEq, reduceIte, Nat.reduceAdd, Nat.reduceLeDiff, Nat.reduceEqDiff, Nat.reduceSub, Nat.reduceMul, Nat.reduceDiv, SOper.again, same, sameBlk, sameCap, Nat.reduceBneDiff, s_draw2, s_pair, k_pair, asunder, SOper.into, Bool.not_false, Bool.not_true, CL, XS, len_vRaws, r0, r2, r3, r4, r6, g0, g1, g2, hlt, hKe]
        refine hend _ _ ⟨a, kv, fz, acc, hkv, gv, low, ?_, ?_, ?_, ?_, ?_, g0, g1, g2⟩ <;> simp -implicitDefEqProofs only [↓v_lenS, SB, POp.val, AOp.val, WOp.val, Lite.bin, intBin, strBin, eqv, eqMany, eq1, AV.asBool, AV.asInt, AV.asNat, AV.asPtr, AV.asStr, resVals, ResV.val, oneOr, wants, skipped, fillAt, putAt, capOf, optNat, bnd, Nat.reduceBEq, reduceIte, Nat.reduceAdd, Nat.reduceLeDiff, Nat.reduceEqDiff, Nat.reduceSub, Nat.reduceMul, Nat.reduceDiv, SOper.again, same, sameBlk, sameCap, Nat.reduceBneDiff, s_draw2, s_pair, k_pair, asunder, SOper.into, Bool.not_false, Bool.not_true, r0, r2, r3, r4, r6]

set_option maxHeartbeats 4000000 in
theorem term12 (l : List Raw) (hl : l.length ≤ 9223372036854775807) (hf : Raw.fits l) (hc : Raw.cnts l ≤ 40) : ∃ (e : X) (m' : Nat), e.good [] 0 m' ∧ e.nodes ≤ 41 ∧ m' < 100 ∧ Ret P3 12 [vRaws l] e.v := by
  match l, hl, hf, hc with
  | [], _, _, _ =>
    refine ⟨.mk 1 [53] [] [], 0, good_int (by simp [intT]) _ _, by rw [nodes_atom rfl]; omega, by omega, ?_⟩
    refine Ret.of rfl (code12 _ _) rfl rfl (fun H => by simp -implicitDefEqProofs only [↓v_lenS, SB, POp.val, AOp.val, WOp.val, Lite.bin, intBin, strBin, eqv, eqMany, eq1, AV.asBool, AV.asInt, AV.asNat, AV.asPtr, AV.asStr, resVals, ResV.val, oneOr, wants, skipped, fillAt, putAt, capOf, optNat, bnd, Nat.reduceBEq, reduceIte, Nat.reduceAdd, Nat.reduceLeDiff, Nat.reduceEqDiff, Nat.reduceSub, Nat.reduceMul, Nat.reduceDiv, SOper.again, same, sameBlk, sameCap, Nat.reduceBneDiff, s_draw2, s_pair, k_pair, asunder, SOper.into, Bool.not_false, Bool.not_true, shutV_vRaws]) (Ev.of fun n H => ?_)
    have h0 : (((0 : Nat) : Int) == 0) = true := rfl
    simp -implicitDefEqProofs only [c12, ↓v_lenS, SB, POp.val, AOp.val, WOp.val, Lite.bin, intBin, strBin, eqv, eqMany, eq1, AV.asBool, AV.asInt, AV.asNat, AV.asPtr, AV.asStr, resVals, ResV.val, oneOr, wants, skipped, fillAt, putAt, capOf, optNat, bnd, Nat.reduceBEq, reduceIte, Nat.reduceAdd, Nat.reduceLeDiff, Nat.reduceEqDiff, Nat.reduceSub, Nat.reduceMul, Nat.reduceDiv, SOper.again, same, sameBlk, sameCap, Nat.reduceBneDiff, s_draw2, s_pair, k_pair, asunder, SOper.into, Bool.not_false, Bool.not_true, CL, XS, len_vRaws, h0, vStrs_nil, vXs_nil, Ends, gives_ret]
    exact ⟨_, rfl⟩
  | [r], _, hf, hc =>
    rw [Raw.cnts, Raw.cnts] at hc
    obtain ⟨e, m', h1, h2, h3, h4⟩ := make30 r hf.1 [] 0 (by simp) (by simp) (by omega)
    refine ⟨e, m', h1, by omega, by omega, ?_⟩
    refine Ret.of rfl (code12 _ _) rfl rfl (fun H => by simp -implicitDefEqProofs only [↓v_lenS, SB, POp.val, AOp.val, WOp.val, Lite.bin, intBin, strBin, eqv, eqMany, eq1, AV.asBool, AV.asInt, AV.asNat, AV.asPtr, AV.asStr, resVals, ResV.val, oneOr, wants, skipped, fillAt, putAt, capOf, optNat, bnd, Nat.reduceBEq, reduceIte, Nat.reduceAdd, Nat.reduceLeDiff, Nat.reduceEqDiff, Nat.reduceSub, Nat.reduceMul, Nat.reduceDiv, SOper.again, same, sameBlk, sameCap, Nat.reduceBneDiff, s_draw2, s_pair, k_pair, asunder, SOper.into, Bool.not_false, Bool.not_true, shutV_vRaws]) (h4.mono fun n e4 H => ?_)
    have hh0 : (((1 : Nat) : Int) == 0) = false := rfl
    have hh1 : (((1 : Nat) : Int) == 1) = true := rfl
    have low2 := (HLow.bare (H := H)).push (ob := .row [.int .i64 0, .str [], .nils, .nils] 0 false (some 28)) |>.push (ob := .row [.int .i64 0] 0 false (some 50))
    have e5 := e4 _ 1 (some 50) low2 (by rw [h_get, if_pos (by simp only [h_n, h_nbare])]; rfl)
    obtain ⟨kr, qr, lr⟩ := r
    obtain ⟨ke, te, ne, le⟩ := e
    simp only [X.v_mk, Raw.cells_mk, vStrs_nil] at e5
    have hr : [Raw.mk kr qr lr][0]? = some (Raw.mk kr qr lr) := rfl
    simp -implicitDefEqProofs only [c12, ↓v_lenS, SB, POp.val, AOp.val, WOp.val, Lite.bin, intBin, strBin, eqv, eqMany, eq1, AV.asBool, AV.asInt, AV.asNat, AV.asPtr, AV.asStr, resVals, ResV.val, oneOr, wants, skipped, fillAt, putAt, capOf, optNat, bnd, Nat.reduceBEq, reduceIte, Nat.reduceAdd, Nat.reduceLeDiff, Nat.reduceEqDiff, Nat.reduceSub, Nat.reduceMul, Nat.reduceDiv, SOper.again, same, sameBlk, sameCap, Nat.reduceBneDiff, s_draw2, s_pair, k_pair, asunder, SOper.into, Bool.not_false, Bool.not_true, CL, XS, len_vRaws, hh0, hh1, Int.toNat_zero, Int.le_refl, iaddr_vRaws hr, Raw.cells_mk, fl_vRaws, shutC_vRaws]
    refine gives_call e5 ?_
    rintro w H5 ⟨rfl, gk5, kp5⟩
    have gc0 := kp5.get 0 (.row [.int .i64 0, .str [], .nils, .nils] 0 false (some 28)) (by simp [h_get, h_n, h_nbare]) (only_row (by decide))
    simp -implicitDefEqProofs only [↓v_lenS, SB, POp.val, AOp.val, WOp.val, Lite.bin, intBin, strBin, eqv, eqMany, eq1, AV.asBool, AV.asInt, AV.asNat, AV.asPtr, AV.asStr, resVals, ResV.val, oneOr, wants, skipped, fillAt, putAt, capOf, optNat, bnd, Nat.reduceBEq, reduceIte, Nat.reduceAdd, Nat.reduceLeDiff, Nat.reduceEqDiff, Nat.reduceSub, Nat.reduceMul, Nat.reduceDiv, SOper.again, same, sameBlk, sameCap, Nat.reduceBneDiff, s_draw2, s_pair, k_pair, asunder, SOper.into, Bool.not_false, Bool.not_true, CL, XS, gc0, Ends, gives_ret]
    exact ⟨_, rfl⟩
  | r0 :: r1 :: ls, hl, hf, hc =>
    have hl2 : 2 ≤ (r0 :: r1 :: ls).length := by simp
    obtain ⟨N, hN⟩ : ∃ N, boundN (r0 :: r1 :: ls).length = N := ⟨_, rfl⟩
    have hN1 : 1 ≤ N := by rw [← hN]; unfold boundN; omega
    have hN4 : N ≤ 4 := by rw [← hN]; unfold boundN; omega
    have hNl : N < (r0 :: r1 :: ls).length := by rw [← hN]; unfold boundN; omega
    have hb3 : ¬ N + 1 < (r0 :: r1 :: ls).length ∨ N = 4 := by rw [← hN]; unfold boundN; omega
    have hfit : Raw.fits ((r1 :: ls).take N ++ [r0]) := by
      rw [Raw.fits_iff] at hf ⊢
      intro d hd
      rcases List.mem_append.1 hd with h | h
      · exact hf d (List.mem_cons_of_mem _ (List.mem_of_mem_take h))
      · rw [List.mem_singleton.1 h]; exact hf r0 (by simp)
    have hcn : Raw.cnts ((r1 :: ls).take N ++ [r0]) ≤ 40 := by
      have h1 := cnts_take_le (r1 :: ls) N
      rw [cnts_append]
      simp only [Raw.cnts] at hc h1 ⊢
      omega
    have hrl : ((r1 :: ls).take N ++ [r0]).length = N + 1 := by
      have h1 : N < ls.length + 1 + 1 := hNl
      rw [List.length_append, List.length_take, List.length_singleton, List.length_cons, Nat.min_eq_left (by omega)]
    obtain ⟨es, ms, hlen, hm0, hmle, hgd, hnd, hms, hev⟩ := makes_ok _ hfit (vds 0 N) N (by rw [vds_len]; omega) (fun s hs => by obtain ⟨j, rfl⟩ := mem_vds hs; exact vdot_ne j) (by omega)
    rw [hrl] at hlen hmle hgd hms
    refine ⟨.mk 9 [] (vds 0 N) es, ms (N + 1), ⟨.inr (.inr (.inr (.inr (.inr (.inr (.inr (.inr (.inl ⟨rfl, rfl, by rw [vds_len]; omega, by rw [vds_len]; exact hlen⟩)))))))), by omega, fun h => absurd h (by decide), by rw [vds_len], ?_⟩, ?_, by omega, ?_⟩
    · rw [vds_len, List.nil_append, Nat.zero_add]; exact hgd
    · rw [X.nodes, if_neg (by decide)]; omega
    have ev0 : Ev fun n => ∀ j r e, ((r1 :: ls).take N ++ [r0])[j]? = some r → es[j]? = some e → Makes 30 [.agg r.cells, vStrs (vds 0 N)] (ms j) e (ms (j + 1)) n := hev
    have hlast : ((r1 :: ls).take N ++ [r0])[N]? = some r0 := by
      have : ((r1 :: ls).take N).length = N := by simp only [List.length_append, List.length_singleton] at hrl; omega
      rw [List.getElem?_append_right (by omega), this, Nat.sub_self]; rfl
    have hmid : ∀ j, j < N → ((r1 :: ls).take N ++ [r0])[j]? = (r0 :: r1 :: ls)[j + 1]? := fun j hj => by
      have : ((r1 :: ls).take N).length = N := by simp only [List.length_append, List.length_singleton] at hrl; omega
      rw [List.getElem?_append_left (by omega), List.getElem?_take_of_lt hj, List.getElem?_cons_succ]
    generalize hL : r0 :: r1 :: ls = L at *
    have hr0 : L[0]? = some r0 := by rw [← hL]; rfl
    refine Ret.of rfl (code12 _ _) rfl rfl (fun H => by simp -implicitDefEqProofs only [↓v_lenS, SB, POp.val, AOp.val, WOp.val, Lite.bin, intBin, strBin, eqv, eqMany, eq1, AV.asBool, AV.asInt, AV.asNat, AV.asPtr, AV.asStr, resVals, ResV.val, oneOr, wants, skipped, fillAt, putAt, capOf, optNat, bnd, Nat.reduceBEq, reduceIte, Nat.reduceAdd, Nat.reduceLeDiff, Nat.reduceEqDiff, Nat.reduceSub, Nat.reduceMul, Nat.reduceDiv, SOper.again, same, sameBlk, sameCap, Nat.reduceBneDiff, s_draw2, s_pair, k_pair, asunder, SOper.into, Bool.not_false, Bool.not_true, shutV_vRaws]) ((name31_all.and (ev0.and (Ev.ge 10))).mono fun n hn H => ?_)
    obtain ⟨en, ee, hge⟩ := hn
    have hh0 : ((L.length : Int) == 0) = false := by rw [beq_eq_false_iff_ne]; omega
    have hh1 : ((L.length : Int) == 1) = false := by rw [beq_eq_false_iff_ne]; omega
    simp -implicitDefEqProofs only [c12, ↓v_lenS, SB, POp.val, AOp.val, WOp.val, Lite.bin, intBin, strBin, eqv, eqMany, eq1, AV.asBool, AV.asInt, AV.asNat, AV.asPtr, AV.asStr, resVals, ResV.val, oneOr, wants, skipped, fillAt, putAt, capOf, optNat, bnd, Nat.reduceBEq, reduceIte, Nat.reduceAdd, Nat.reduceLeDiff, Nat.reduceEqDiff, Nat.reduceSub, Nat.reduceMul, Nat.reduceDiv, SOper.again, same, sameBlk, sameCap, Nat.reduceBneDiff, s_draw2, s_pair, k_pair, asunder, SOper.into, Bool.not_false, Bool.not_true, CL, XS, len_vRaws, hh0, hh1, fl_vRaws, shutC_vRaws]
    refine loop_termA (l := L) hl2 hge en _ _ ?_ fun fr H2 h => ?_
    · refine ⟨.nils, Acc.nil, ((HLow.bare.push.push).push).put (by simp [h_n, h_nbare]), ?_⟩
      simp -implicitDefEqProofs only [↓v_lenS, SB, POp.val, AOp.val, WOp.val, Lite.bin, intBin, strBin, eqv, eqMany, eq1, AV.asBool, AV.asInt, AV.asNat, AV.asPtr, AV.asStr, resVals, ResV.val, oneOr, wants, skipped, fillAt, putAt, capOf, optNat, bnd, Nat.reduceBEq, reduceIte, Nat.reduceAdd, Nat.reduceLeDiff, Nat.reduceEqDiff, Nat.reduceSub, Nat.reduceMul, Nat.reduceDiv, SOper.again, same, sameBlk, sameCap, Nat.reduceBneDiff, s_draw2, s_pair, k_pair, asunder, SOper.into, Bool.not_false, Bool.not_true]
      exact ⟨rfl, rfl⟩
    · rw [hN] at h
      obtain ⟨v, acc, low, r0', r2, r3, r4, r5, g0, g1, g2⟩ := h
      obtain ⟨kv, rfl, hkv, gv⟩ := acc.slice (by omega)
      simp -implicitDefEqProofs only [↓v_lenS, SB, POp.val, AOp.val, WOp.val, Lite.bin, intBin, strBin, eqv, eqMany, eq1, AV.asBool, AV.asInt, AV.asNat, AV.asPtr, AV.asStr, resVals, ResV.val, oneOr, wants, skipped, fillAt, putAt, capOf, optNat, bnd, Nat.reduceBEq, reduceIte, Nat.reduceAdd, Nat.reduceLeDiff, Nat.reduceEqDiff, Nat.reduceSub, Nat.reduceMul, Nat.reduceDiv, SOper.again, same, sameBlk, sameCap, Nat.reduceBneDiff, s_draw2, s_pair, k_pair, asunder, SOper.into, Bool.not_false, Bool.not_true, CL, XS]
      refine loop_termB (l := L) (N := N) (es := es) (ms := ms) hN1 hN4 hNl hb3 hlen hge (fun j r e hj hr he => ee j r e (by rw [hmid j hj]; exact hr) he) _ _ ?_ fun fr H3 h => ?_
      · refine ⟨.nils, kv, false, Acc.nil, hkv, gv, low, ?_, ?_, ?_, ?_, ?_, g0, by rw [g1, hm0], g2⟩
        · simp -implicitDefEqProofs only [↓v_lenS, SB, POp.val, AOp.val, WOp.val, Lite.bin, intBin, strBin, eqv, eqMany, eq1, AV.asBool, AV.asInt, AV.asNat, AV.asPtr, AV.asStr, resVals, ResV.val, oneOr, wants, skipped, fillAt, putAt, capOf, optNat, bnd, Nat.reduceBEq, reduceIte, Nat.reduceAdd, Nat.reduceLeDiff, Nat.reduceEqDiff, Nat.reduceSub, Nat.reduceMul, Nat.reduceDiv, SOper.again, same, sameBlk, sameCap, Nat.reduceBneDiff, s_draw2, s_pair, k_pair, asunder, SOper.into, Bool.not_false, Bool.not_true, r0']
        · simp -implicitDefEqProofs only [↓v_lenS, SB, POp.val, AOp.val, WOp.val, Lite.bin, intBin, strBin, eqv, eqMany, eq1, AV.asBool, AV.asInt, AV.asNat, AV.asPtr, AV.asStr, resVals, ResV.val, oneOr, wants, skipped, fillAt, putAt, capOf, optNat, bnd, Nat.reduceBEq, reduceIte, Nat.reduceAdd, Nat.reduceLeDiff, Nat.reduceEqDiff, Nat.reduceSub, Nat.reduceMul, Nat.reduceDiv, SOper.again, same, sameBlk, sameCap, Nat.reduceBneDiff, s_draw2, s_pair, k_pair, asunder, SOper.into, Bool.not_false, Bool.not_true, r2]
        · simp -implicitDefEqProofs only [↓v_lenS, SB, POp.val, AOp.val, WOp.val, Lite.bin, intBin, strBin, eqv, eqMany, eq1, AV.asBool, AV.asInt, AV.asNat, AV.asPtr, AV.asStr, resVals, ResV.val, oneOr, wants, skipped, fillAt, putAt, capOf, optNat, bnd, Nat.reduceBEq, reduceIte, Nat.reduceAdd, Nat.reduceLeDiff, Nat.reduceEqDiff, Nat.reduceSub, Nat.reduceMul, Nat.reduceDiv, SOper.again, same, sameBlk, sameCap, Nat.reduceBneDiff, s_draw2, s_pair, k_pair, asunder, SOper.into, Bool.not_false, Bool.not_true, r3]
        · simp -implicitDefEqProofs only [↓v_lenS, SB, POp.val, AOp.val, WOp.val, Lite.bin, intBin, strBin, eqv, eqMany, eq1, AV.asBool, AV.asInt, AV.asNat, AV.asPtr, AV.asStr, resVals, ResV.val, oneOr, wants, skipped, fillAt, putAt, capOf, optNat, bnd, Nat.reduceBEq, reduceIte, Nat.reduceAdd, Nat.reduceLeDiff, Nat.reduceEqDiff, Nat.reduceSub, Nat.reduceMul, Nat.reduceDiv, SOper.again, same, sameBlk, sameCap, Nat.reduceBneDiff, s_draw2, s_pair, k_pair, asunder, SOper.into, Bool.not_false, Bool.not_true, r4]
        · simp -implicitDefEqProofs only [↓v_lenS, SB, POp.val, AOp.val, WOp.val, Lite.bin, intBin, strBin, eqv, eqMany, eq1, AV.asBool, AV.asInt, AV.asNat, AV.asPtr, AV.asStr, resVals, ResV.val, oneOr, wants, skipped, fillAt, putAt, capOf, optNat, bnd, Nat.reduceBEq, reduceIte, Nat.reduceAdd, Nat.reduceLeDiff, Nat.reduceEqDiff, Nat.reduceSub, Nat.reduceMul, Nat.reduceDiv, SOper.again, same, sameBlk, sameCap, Nat.reduceBneDiff, s_draw2, s_pair, k_pair, asunder, SOper.into, Bool.not_false, Bool.not_true]
          rfl
      · obtain ⟨a, kv, fz, acc, hkv, gv, low, r0', r2, r3, r4, r6, g0, g1, g2⟩ := h
        obtain ⟨x, hx⟩ : ∃ x, es[N]? = some x := ⟨es[N], List.getElem?_eq_getElem (by omega)⟩
        have hsoft := softV_rowN (vds_len 0 N) gv (vds_ne hN1)
        have e5 := ee N r0 x hlast hx (H3.put kv (.row ((vds 0 N).flatMap str1) 1 true (some 9))) 1 (some 50) (low.put (low.lt gv)) (by rw [h_gput, if_neg (by omega)]; exact g1)
        have fa := acc.flat
        obtain ⟨kr, qr, lr⟩ := r0
        simp only [Raw.cells_mk] at e5
        simp -implicitDefEqProofs only [↓v_lenS, SB, POp.val, AOp.val, WOp.val, Lite.bin, intBin, strBin, eqv, eqMany, eq1, AV.asBool, AV.asInt, AV.asNat, AV.asPtr, AV.asStr, resVals, ResV.val, oneOr, wants, skipped, fillAt, putAt, capOf, optNat, bnd, Nat.reduceBEq, reduceIte, Nat.reduceAdd, Nat.reduceLeDiff, Nat.reduceEqDiff, Nat.reduceSub, Nat.reduceMul, Nat.reduceDiv, SOper.again, same, sameBlk, sameCap, Nat.reduceBneDiff, s_draw2, s_pair, k_pair, asunder, SOper.into, Bool.not_false, Bool.not_true, CL, XS, len_vRaws, fl_vRaws, shutC_vRaws, r0', r2, r3, r4, r6, g0, g1, g2, Int.toNat_zero, Int.le_refl, iaddr_vRaws hr0, Raw.cells_mk, hsoft]
        refine gives_call e5 ?_
        rintro w H5 ⟨rfl, gk5, kp5⟩
        obtain ⟨gc2, hn5, H7, happ, gd2, hrest⟩ := termB_step hx (by omega) acc hkv gv low g0 g2 gk5 kp5
        obtain ⟨kx, tx, nx, lx⟩ := x
        simp only [X.cells_mk] at happ
        obtain ⟨p1, p2, p3, p4, p5⟩ := hrest (.row [.int .i64 9, .str [], .slice (.new kv) 0 N (.gro 1), .slice (.new (H5.n + 1)) 0 (N + 1) (.gro 4)] 0 false (some 28))
        rw [List.take_of_length_le (by omega)] at p1
        generalize hH8 : H7.put 2 (.row [.int .i64 9, .str [], .slice (.new kv) 0 N (.gro 1), .slice (.new (H5.n + 1)) 0 (N + 1) (.gro 4)] 0 false (some 28)) = H8 at *
        have q2 : H8.t.get 2 = some (.row [.int .i64 9, .str [], .slice (.new kv) 0 N (.gro 1), .slice (.new (H5.n + 1)) 0 (N + 1) (.gro 4)] 0 false (some 28)) := by rw [← hH8, h_gput, if_pos rfl]
        simp -implicitDefEqProofs only [↓v_lenS, SB, POp.val, AOp.val, WOp.val, Lite.bin, intBin, strBin, eqv, eqMany, eq1, AV.asBool, AV.asInt, AV.asNat, AV.asPtr, AV.asStr, resVals, ResV.val, oneOr, wants, skipped, fillAt, putAt, capOf, optNat, bnd, Nat.reduceBEq, reduceIte, Nat.reduceAdd, Nat.reduceLeDiff, Nat.reduceEqDiff, Nat.reduceSub, Nat.reduceMul, Nat.reduceDiv, SOper.again, same, sameBlk, sameCap, Nat.reduceBneDiff, s_draw2, s_pair, k_pair, asunder, SOper.into, Bool.not_false, Bool.not_true, CL, XS, r0', r2, r3, r4, r6, gc2, fa, k_taken, happ, gd2, hH8, q2, p4, Ends, gives_ret]
        have hkv' : (H8.put 0 (.row [.int .i64 9, .str [], .slice (.new kv) 0 N (.gro 1), .slice (.new (H5.n + 1)) 0 (N + 1) (.gro 4)] 0 false (some 28))).t.get kv = some (.row ((vds 0 N).flatMap str1) 1 true (some 9)) := by rw [h_gput, if_neg (by omega)]; exact p2
        have acc9 := (p1.put (k := 0) (by decide) p4 (ob := .row [.int .i64 9, .str [], .slice (.new kv) 0 N (.gro 1), .slice (.new (H5.n + 1)) 0 (N + 1) (.gro 4)] 0 false (some 28))).putT hkv' (by decide) (ob := .row ((vds 0 N).flatMap str1) 1 true (some 9))
        rw [← hlen] at acc9
        obtain ⟨H9, hsh, _⟩ := acc9.shut (d := 63) (by decide) (Still.flat X.still _)
        rw [L_vXs, hlen] at hsh
        simp -implicitDefEqProofs only [shutC_rowN (vds_len 0 N) hkv' (vds_ne hN1), hsh, Option.bind_some, Option.map_some]
        exact ⟨_, rfl⟩

end Go.Lite

/-
  Raw terms, as they stand in the world ahead of a call; a law's call, from the interpreter's run; a row that lists variables.
-/
namespace Go.Lite
open Go Go.Proofs Go.RowKit
set_option linter.unusedVariables false
set_option linter.unusedSimpArgs false

/-- a row's road: what is listed, what is sized, the world's shape -/
theorem returns_laid {H : Type} {enc : TypeId × Value → H} {a : Assume} {C : Checked} {os : Os} {f : FuncId} {fn : Func} {s : ChangeSpec} {conds : List PathCond} {apart fresh handsOn again : Bool} {X : World → Array Value → Prop}
    (own : ownKnob C.prog.godebug = none) (started : os.Started) (noInit : C.prog.inits.idxOf? f = none) (hfn : C.prog.funcs[f]? = some fn)
    (witness : ∃ (w : World) (tape : Tape) (i : Input), w.os = os ∧ (w.forCall tape i).Shaped C.prog ∧ i.vars = [] ∧ Input.okWide C.prog (w.forCall tape i) .any w.heap.size f i ∧
      ((s.pre enc C.prog fn conds apart (w.forCall tape i).memory i.args ∧ X (w.forCall tape i).memory i.args) ∧ sizedMet enc C.prog fn (OpenSpec.ofChange s) apart (w.forCall tape i).memory i.args) ∧ a.holds C.prog (lone (Frame.enter C.prog f i.args .normal) [] (w.forCall tape i)))
    (contract : ∀ (W : World) (base : Nat) (args : Array Value) (ds gs : List (DataW H)) (before : List MemPlace),
      (∀ (j : Nat) t v, fn.params[j]? = some t → args[j]? = some v → Value.okWide C.prog W .any base t v) →
      DataW.Whole enc C.prog fn.params.toList s.vars apart W args.toList ds gs before →
      conds.all (PathCond.test C.prog ⟨fn.params.toList, ds, s.plain.varTypes C.prog, gs⟩) = true →
      (DataW.weightsEach C.prog (fn.params.toList ++ s.plain.varTypes C.prog) (ds ++ gs)).all (· ≤ reachBytes) = true →
      W.ShapedOpen C.prog →
      a.holds C.prog (lone (Frame.enter C.prog f args .normal) [] W) →
      Calls C.prog f args W fun e W' => ∃ v, e = .returned v ∧ s.post enc C.prog fn apart fresh handsOn again W args v W') :
    ReturnsInHanded a C os f .any (fun w args => (s.pre enc C.prog fn conds apart w args ∧ X w args) ∧ sizedMet enc C.prog fn (OpenSpec.ofChange s) apart w args) (s.post enc C.prog fn apart fresh handsOn again) := by
  refine returnsInHanded_of_calls own started noInit witness ?_
  intro w tape i _ hsh _ hok hpre hholds
  obtain ⟨_, _, _, fn', hfn', _, _, _, _, hval⟩ := hok
  have e : fn' = fn := Option.some.inj (hfn'.symm.trans hfn)
  subst e
  obtain ⟨⟨⟨ds, gs, before, hw, hc⟩, hx⟩, hz⟩ := hpre
  have hw' := DataW.Whole.of_heap (w' := w.forCall tape i) (by rfl) hw
  refine (contract (w.forCall tape i) w.heap.size i.args ds gs before hval hw' hc (hz.weights hw) hsh hholds).mono fun e W' ⟨v, he, hp⟩ => ?_
  subst he
  exact ChangeSpec.post_blind hp

theorem open_raws {H : Type} {enc : TypeId × Value → H} {P : Program} {W : World} {sp : Nat → Bool} {held : Bool} {t e : TypeId} {fs : Array Field} (ht : P.underlying t = some (.slice e)) (he : P.underlying e = some (.struct fs)) (hc : P.cellsOf e = 3)
    (hf0 : ∃ f, fs[0]? = some f ∧ f.offset = 0 ∧ P.underlying f.type = some (.int .i64) ∧ P.cellsOf f.type = 1) (hf1 : ∃ f, fs[1]? = some f ∧ f.offset = 1 ∧ P.underlying f.type = some (.int .i64) ∧ P.cellsOf f.type = 1)
    (hf2 : ∃ f, fs[2]? = some f ∧ f.offset = 2 ∧ f.type = t ∧ P.cellsOf f.type = 1) :
    ∀ (fuel : Nat) (u : Value) (x : DataW H × List MemPlace), DataW.trod enc P W 0 sp held fuel t [u] = some x →
    ∃ l : List Raw, (l.length ≤ 9223372036854775807 ∧ Raw.fits l) ∧ VRel (NB.of W.heap.size) (emb0 W) (vRaws l) u := by
  intro fuel
  induction fuel using Nat.strongRecOn with
  | _ fuel ih =>
    intro u x h
    rcases DataW.trod_slice ht h with ⟨h1, _⟩ | ⟨a, len, cap, elems, rest, n, hfu, h1, _, _, hl, hm, hlen, hel, _, _⟩
    · simp only [List.cons.injEq, and_true] at h1
      subst h1
      exact ⟨[], ⟨by simp, trivial⟩, slice_nil_rel⟩
    · simp only [List.cons.injEq, and_true] at h1
      subst h1
      rw [hc] at hel
      obtain ⟨l, h1, h2, h3⟩ := slice_rel (W := W) (g := Raw.cells) (F := Raw.fit) (es := 3) (by decide) Raw.cells_len hl fun i hi => by
        obtain ⟨y, hy⟩ : ∃ y, elems[i]? = some y := ⟨elems[i]'(by omega), List.getElem?_eq_getElem _⟩
        have := hel i hi
        rw [hy] at this
        obtain ⟨cs, hcs, hd⟩ := Option.bind_eq_some_iff.1 this
        obtain ⟨xs, m, hm, _, hcl, hxl, hfs⟩ := DataW.trod_struct he hd
        rw [hc] at hcl
        obtain ⟨c0, c1, c2, rfl⟩ : ∃ c0 c1 c2, cs = [c0, c1, c2] := by
          match cs, hcl with
          | [c0, c1, c2], _ => exact ⟨c0, c1, c2, rfl⟩
        obtain ⟨f0, g0, o0, u0, z0⟩ := hf0
        obtain ⟨f1, g1, o1, u1, z1⟩ := hf1
        obtain ⟨f2, g2, o2, u2, z2⟩ := hf2
        have q0 := hfs 0 f0 g0
        have q1 := hfs 1 f1 g1
        have q2 := hfs 2 f2 g2
        have hsz : xs.length = fs.size := hxl
        have l2 : 2 < fs.size := (Array.getElem?_eq_some_iff.1 g2).1
        rw [o0, z0, List.getElem?_eq_getElem (by omega)] at q0
        rw [o1, z1, List.getElem?_eq_getElem (by omega)] at q1
        rw [o2, z2, u2, List.getElem?_eq_getElem (by omega)] at q2
        simp only [List.drop_zero, List.take_succ_cons, List.take_zero, List.drop_succ_cons] at q0 q1 q2
        obtain ⟨k, hk, _, _⟩ := DataW.trod_int u0 q0
        obtain ⟨q, hq, _, _⟩ := DataW.trod_int u1 q1
        obtain ⟨l', ⟨w1, w2⟩, w3⟩ := ih m (by omega) c2 _ q2
        simp only [List.cons.injEq, and_true] at hk hq
        subst hk; subst hq
        refine ⟨_, .mk k q l', hcs, ?_, w1, w2⟩
        rw [Raw.cells_mk]
        simp only [VRels, VRel]
        exact ⟨_, _, rfl, rfl, _, _, rfl, rfl, _, _, rfl, w3, rfl⟩
      have hmx : maxLen = 9223372036854775807 := by decide
      exact ⟨l, ⟨by omega, (Raw.fits_iff l).2 h3⟩, h2⟩

theorem own3_ok (W : World) (hgl : (Tryd.prog).globals.size ≤ W.heap.size) : ∀ f g, own3 f = some g → OwnOk Tryd.prog (NB.of W.heap.size) f g := by
  intro f g h
  unfold own3 at h
  cases h1 : Nat.beq f 49 with
  | true =>
    rw [h1] at h
    simp only [cond_true, Option.some.injEq] at h
    subst h
    rw [Nat.eq_of_beq_eq_true h1]
    exact ownClone_ok hgl (by kernel_rfl) (e := 9) (by decide) (fun own mode => code49 own mode)
  | false =>
    rw [h1] at h
    simp only [cond_false] at h
    cases h2 : Nat.beq f 51 with
    | true =>
      rw [h2] at h
      simp only [cond_true, Option.some.injEq] at h
      subst h
      rw [Nat.eq_of_beq_eq_true h2]
      exact ownClone_ok hgl (by kernel_rfl) (e := 28) (by decide) (fun own mode => code51 own mode)
    | false => rw [h2] at h; cases h

theorem calls_of_ret {W : World} (hsh : W.ShapedOpen Tryd.prog) {f : Nat} {xs : List AV} {args : Array Value} (h : Ret P3 f xs (.bool true)) (hxs : VRels (NB.of W.heap.size) (emb0 W) xs args.toList) :
    Calls Tryd.prog f args W fun e w' => e = .returned (.bool true) ∧ Below W.heap.size W w' := by
  obtain ⟨N, hN⟩ := h
  exact row_run (globals_le hsh) (by kernel_rfl) (own3_ok W (globals_le hsh)) (hN N (Nat.le_refl _) heap0) hxs

end Go.Lite

/-
  A world in which the listed variables hold what is listed.
-/
namespace Go.Lite
open Go Go.Proofs Go.RowKit

/-- a row of numbers, as cells -/
def cellsLaid {H : Type} : DataW H → Array Value
  | .agg l => (l.map fun d => match d with | .lit (.int k n) => Value.int k n | _ => .bool false).toArray
  | _ => #[]

noncomputable def laidWorld (P : Program) (os : Os) (l : List (Nat × DataW Unit)) : World :=
  let w0 := World.holding P os ⟨#[], #[], []⟩
  { w0 with heap := l.foldl (fun h p => h.modify p.1 fun
      | .cells _ t frozen => .cells (cellsLaid p.2) t frozen
      | o => o) w0.heap }

end Go.Lite
