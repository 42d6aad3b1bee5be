/-
  What is plain: datum.Plain, the document's; its text, size; whether places are the same; whether there are marks.
-/
import Derived.Test.YtibjdfajafilhaaESame
namespace Go.Lite
open Go Go.Proofs
set_option maxRecDepth 100000
set_option linter.unusedSimpArgs false
set_option linter.unusedVariables false

theorem size_mem {l : List D} {d : D} (h : d ∈ l) : d.size ≤ D.sizes l := by
  obtain ⟨i, hi, rfl⟩ := List.getElem_of_mem h
  have h1 := D.sizes_take (List.getElem?_eq_getElem hi)
  have h2 := D.sizes_take_le l (i + 1)
  omega

/-- a loop's frame: it goes over the list in box b, by the count in t -/
theorem size26 : ∀ d : D, d.size ≤ 1099511627776 → Ret P2 26 [d.v] (.int .i64 d.size) := D.indA fun k t ms l a ih hsz => by
  rw [D.size] at hsz ⊢
  have hl := D.len_le_sizes l
  refine Ret.of rfl (code26 _ _) rfl rfl (fun H => by simp -implicitDefEqProofs only [↓v_lenS, SB, POp.val, AOp.val, WOp.val, Lite.bin, intBin, strBin, eqv, eqMany, eq1, AV.asBool, AV.asInt, AV.asNat, AV.asPtr, AV.asStr, resVals, ResV.val, oneOr, wants, skipped, fillAt, putAt, capOf, optNat, bnd, Nat.reduceBEq, reduceIte, Nat.reduceAdd, Nat.reduceLeDiff, Nat.reduceEqDiff, Nat.reduceSub, Nat.reduceMul, Nat.reduceDiv, SOper.again, same, sameBlk, sameCap, Nat.reduceBneDiff, s_draw2, s_pair, k_pair, asunder, SOper.into, Bool.not_false, Bool.not_true, DS]) ?_
  refine ((Ev.all l fun d hd => ih d hd (by have := size_mem hd; omega)).and (Ev.ge (l.length + 1))).mono fun n hn H => ?_
  obtain ⟨ihn, hge⟩ := hn
  simp -implicitDefEqProofs only [c26, ↓v_lenS, SB, POp.val, AOp.val, WOp.val, Lite.bin, intBin, strBin, eqv, eqMany, eq1, AV.asBool, AV.asInt, AV.asNat, AV.asPtr, AV.asStr, resVals, ResV.val, oneOr, wants, skipped, fillAt, putAt, capOf, optNat, bnd, Nat.reduceBEq, reduceIte, Nat.reduceAdd, Nat.reduceLeDiff, Nat.reduceEqDiff, Nat.reduceSub, Nat.reduceMul, Nat.reduceDiv, SOper.again, same, sameBlk, sameCap, Nat.reduceBneDiff, s_draw2, s_pair, k_pair, asunder, SOper.into, Bool.not_false, Bool.not_true, DS]
  refine loop_rounds l.length (fun i fr H => fr 1 = .ptr (.new 0) 0 ∧ fr 4 = .int .i64 i ∧ fr 3 = .int .i64 (1 + D.sizes (l.take i) : Nat) ∧ H.t.get 0 = some (.row [.int .i64 k, .str t, vInts ms, vData l, .int .i64 a] 0 false (some 30))) ?_ ?_ n 0 _ _ (by omega) (by omega) ?_
  · rintro i fr H K' hi ⟨h1, h4, h3, g0⟩ hKe hKr hK
    obtain ⟨d, hd⟩ : ∃ d, l[i]? = some d := ⟨l[i], List.getElem?_eq_getElem hi⟩
    have e1 := ihn d (List.mem_of_getElem? hd)
    have hlt : (i : Int) < (l.length : Int) := by omega
    have hw := wrap_succ hi (by omega)
    have hs := D.sizes_take hd
    have hw2 : IntKind.i64.wrap (((1 + D.sizes (l.take i) : Nat) : Int) + (d.size : Int)) = ((1 + D.sizes (l.take (i + 1)) : Nat) : Int) := by
      have := D.sizes_take_le l (i + 1)
      rw [wrap_nat (by omega)]
      congr 1; omega
    obtain ⟨kd, td, md, ld, ad⟩ := d
    rw [D.v_mk] at e1
    simp -implicitDefEqProofs only [c26_l0, ↓v_lenS, SB, POp.val, AOp.val, WOp.val, Lite.bin, intBin, strBin, eqv, eqMany, eq1, AV.asBool, AV.asInt, AV.asNat, AV.asPtr, AV.asStr, resVals, ResV.val, oneOr, wants, skipped, fillAt, putAt, capOf, optNat, bnd, Nat.reduceBEq, reduceIte, Nat.reduceAdd, Nat.reduceLeDiff, Nat.reduceEqDiff, Nat.reduceSub, Nat.reduceMul, Nat.reduceDiv, SOper.again, same, sameBlk, sameCap, Nat.reduceBneDiff, s_draw2, s_pair, k_pair, asunder, SOper.into, Bool.not_false, Bool.not_true, h1, h4, h3, g0, hlt, iaddr_vData hd, DS, CL, e1, hw, hw2]
    refine hK _ _ ?_
    simp -implicitDefEqProofs only [↓v_lenS, SB, POp.val, AOp.val, WOp.val, Lite.bin, intBin, strBin, eqv, eqMany, eq1, AV.asBool, AV.asInt, AV.asNat, AV.asPtr, AV.asStr, resVals, ResV.val, oneOr, wants, skipped, fillAt, putAt, capOf, optNat, bnd, Nat.reduceBEq, reduceIte, Nat.reduceAdd, Nat.reduceLeDiff, Nat.reduceEqDiff, Nat.reduceSub, Nat.reduceMul, Nat.reduceDiv, SOper.again, same, sameBlk, sameCap, Nat.reduceBneDiff, s_draw2, s_pair, k_pair, asunder, SOper.into, Bool.not_false, Bool.not_true, h1, g0]
  · rintro fr H K' ⟨h1, h4, h3, g0⟩ hKe hKr
    simp -implicitDefEqProofs only [c26_l0, ↓v_lenS, SB, POp.val, AOp.val, WOp.val, Lite.bin, intBin, strBin, eqv, eqMany, eq1, AV.asBool, AV.asInt, AV.asNat, AV.asPtr, AV.asStr, resVals, ResV.val, oneOr, wants, skipped, fillAt, putAt, capOf, optNat, bnd, Nat.reduceBEq, reduceIte, Nat.reduceAdd, Nat.reduceLeDiff, Nat.reduceEqDiff, Nat.reduceSub, Nat.reduceMul, Nat.reduceDiv, SOper.again, same, sameBlk, sameCap, Nat.reduceBneDiff, s_draw2, s_pair, k_pair, asunder, SOper.into, Bool.not_false, Bool.not_true, DS, h1, h4, h3, g0, Int.lt_irrefl, hKe, List.take_length, gives_ret, Ends]
    exact ⟨_, rfl⟩
  · simp -implicitDefEqProofs only [↓v_lenS, SB, POp.val, AOp.val, WOp.val, Lite.bin, intBin, strBin, eqv, eqMany, eq1, AV.asBool, AV.asInt, AV.asNat, AV.asPtr, AV.asStr, resVals, ResV.val, oneOr, wants, skipped, fillAt, putAt, capOf, optNat, bnd, Nat.reduceBEq, reduceIte, Nat.reduceAdd, Nat.reduceLeDiff, Nat.reduceEqDiff, Nat.reduceSub, Nat.reduceMul, Nat.reduceDiv, SOper.again, same, sameBlk, sameCap, Nat.reduceBneDiff, s_draw2, s_pair, k_pair, asunder, SOper.into, Bool.not_false, Bool.not_true, List.take_zero, D.sizes]
    exact ⟨rfl, rfl⟩

theorem text24 : ∀ d : D, d.txt.length ≤ 1099511627776 → Ret P2 24 [d.v] (.str d.txt) := D.indA fun k t ms l a ih hlen => by
  rw [D.txt] at hlen ⊢
  by_cases hk : k = 4
  · subst hk
    rw [if_pos rfl] at hlen ⊢
    simp only [List.length_append, List.length_singleton] at hlen
    have hll := len_le_txts l
    have hm : ∀ d ∈ l, d.txt.length ≤ (D.txts l).length := fun d hd => by
      obtain ⟨i, hi, rfl⟩ := List.getElem_of_mem hd
      have h1 := txts_take (List.getElem?_eq_getElem hi)
      have h2 := txts_take_len l (i + 1)
      rw [h1, List.length_append] at h2
      omega
    refine Ret.of rfl (code24 _ _) rfl rfl (fun H => by simp -implicitDefEqProofs only [↓v_lenS, SB, POp.val, AOp.val, WOp.val, Lite.bin, intBin, strBin, eqv, eqMany, eq1, AV.asBool, AV.asInt, AV.asNat, AV.asPtr, AV.asStr, resVals, ResV.val, oneOr, wants, skipped, fillAt, putAt, capOf, optNat, bnd, Nat.reduceBEq, reduceIte, Nat.reduceAdd, Nat.reduceLeDiff, Nat.reduceEqDiff, Nat.reduceSub, Nat.reduceMul, Nat.reduceDiv, SOper.again, same, sameBlk, sameCap, Nat.reduceBneDiff, s_draw2, s_pair, k_pair, asunder, SOper.into, Bool.not_false, Bool.not_true, DS]) ?_
    refine ((Ev.all l fun d hd => ih d hd (by have := hm d hd; omega)).and (Ev.ge (l.length + 1))).mono fun n hn H => ?_
    obtain ⟨ihn, hge⟩ := hn
    have h4 : ((4 : Int) != 4) = false := rfl
    generalize hT : [40] ++ D.txts l ++ [41] = T
    simp -implicitDefEqProofs only [c24, ↓v_lenS, SB, POp.val, AOp.val, WOp.val, Lite.bin, intBin, strBin, eqv, eqMany, eq1, AV.asBool, AV.asInt, AV.asNat, AV.asPtr, AV.asStr, resVals, ResV.val, oneOr, wants, skipped, fillAt, putAt, capOf, optNat, bnd, Nat.reduceBEq, reduceIte, Nat.reduceAdd, Nat.reduceLeDiff, Nat.reduceEqDiff, Nat.reduceSub, Nat.reduceMul, Nat.reduceDiv, SOper.again, same, sameBlk, sameCap, Nat.reduceBneDiff, s_draw2, s_pair, k_pair, asunder, SOper.into, Bool.not_false, Bool.not_true, DS, h4]
    refine loop_rounds l.length (fun i fr H => fr 1 = .ptr (.new 0) 0 ∧ fr 4 = .int .i64 i ∧ fr 3 = .str ([40] ++ D.txts (l.take i)) ∧ H.t.get 0 = some (.row [.int .i64 4, .str t, vInts ms, vData l, .int .i64 a] 0 false (some 30))) ?_ ?_ n 0 _ _ (by omega) (by omega) ?_
    · rintro i fr H K' hi ⟨h1, h4, h3, g0⟩ hKe hKr hK
      obtain ⟨d, hd⟩ : ∃ d, l[i]? = some d := ⟨l[i], List.getElem?_eq_getElem hi⟩
      have e1 := ihn d (List.mem_of_getElem? hd)
      have hlt : (i : Int) < (l.length : Int) := by omega
      have hw := wrap_succ hi (by omega)
      have ht := txts_take hd
      have htl := txts_take_len l (i + 1)
      rw [ht, List.length_append, List.length_append] at htl
      by_cases hi0 : i = 0
      · subst hi0
        rw [if_pos rfl] at ht htl
        have hg : ¬ ((0 : Nat) : Int) > 0 := by omega
        have hf : ([40] ++ D.txts (l.take 0)).length + d.txt.length ≤ 4611686018427387904 := by simp at htl ⊢; omega
        rw [ht] at hK
        obtain ⟨kd, td, md, ld, ad⟩ := d
        rw [D.v_mk] at e1
        generalize hS : [40] ++ D.txts (l.take 0) = S at *
        simp -implicitDefEqProofs only [c24_l0, ↓v_lenS, SB, POp.val, AOp.val, WOp.val, Lite.bin, intBin, strBin, eqv, eqMany, eq1, AV.asBool, AV.asInt, AV.asNat, AV.asPtr, AV.asStr, resVals, ResV.val, oneOr, wants, skipped, fillAt, putAt, capOf, optNat, bnd, Nat.reduceBEq, reduceIte, Nat.reduceAdd, Nat.reduceLeDiff, Nat.reduceEqDiff, Nat.reduceSub, Nat.reduceMul, Nat.reduceDiv, SOper.again, same, sameBlk, sameCap, Nat.reduceBneDiff, s_draw2, s_pair, k_pair, asunder, SOper.into, Bool.not_false, Bool.not_true, h1, h4, h3, g0, hlt, iaddr_vData hd, DS, CL, e1, hw, hg, hf]
        refine hK _ _ ?_
        rw [← hS]
        simp -implicitDefEqProofs only [↓v_lenS, SB, POp.val, AOp.val, WOp.val, Lite.bin, intBin, strBin, eqv, eqMany, eq1, AV.asBool, AV.asInt, AV.asNat, AV.asPtr, AV.asStr, resVals, ResV.val, oneOr, wants, skipped, fillAt, putAt, capOf, optNat, bnd, Nat.reduceBEq, reduceIte, Nat.reduceAdd, Nat.reduceLeDiff, Nat.reduceEqDiff, Nat.reduceSub, Nat.reduceMul, Nat.reduceDiv, SOper.again, same, sameBlk, sameCap, Nat.reduceBneDiff, s_draw2, s_pair, k_pair, asunder, SOper.into, Bool.not_false, Bool.not_true, h1, g0, List.append_assoc]
      · rw [if_neg hi0] at ht htl
        simp only [List.length_singleton] at htl
        have hg : (i : Int) > 0 := by omega
        have hf0 : ([40] ++ D.txts (l.take i)).length + [32].length ≤ 4611686018427387904 := by simp only [List.length_append, List.length_singleton]; omega
        have hf : ([40] ++ D.txts (l.take i) ++ [32]).length + d.txt.length ≤ 4611686018427387904 := by simp only [List.length_append, List.length_singleton]; omega
        rw [ht] at hK
        obtain ⟨kd, td, md, ld, ad⟩ := d
        rw [D.v_mk] at e1
        generalize hS : [40] ++ D.txts (l.take i) = S at *
        simp -implicitDefEqProofs only [List.length_append, List.length_singleton] at hf hf0
        simp -implicitDefEqProofs only [c24_l0, ↓v_lenS, SB, POp.val, AOp.val, WOp.val, Lite.bin, intBin, strBin, eqv, eqMany, eq1, AV.asBool, AV.asInt, AV.asNat, AV.asPtr, AV.asStr, resVals, ResV.val, oneOr, wants, skipped, fillAt, putAt, capOf, optNat, bnd, Nat.reduceBEq, reduceIte, Nat.reduceAdd, Nat.reduceLeDiff, Nat.reduceEqDiff, Nat.reduceSub, Nat.reduceMul, Nat.reduceDiv, SOper.again, same, sameBlk, sameCap, Nat.reduceBneDiff, s_draw2, s_pair, k_pair, asunder, SOper.into, Bool.not_false, Bool.not_true, h1, h4, h3, g0, hlt, iaddr_vData hd, DS, CL, e1, hw, hg, hf, hf0, List.length_append]
        refine hK _ _ ?_
        rw [← hS]
        simp -implicitDefEqProofs only [↓v_lenS, SB, POp.val, AOp.val, WOp.val, Lite.bin, intBin, strBin, eqv, eqMany, eq1, AV.asBool, AV.asInt, AV.asNat, AV.asPtr, AV.asStr, resVals, ResV.val, oneOr, wants, skipped, fillAt, putAt, capOf, optNat, bnd, Nat.reduceBEq, reduceIte, Nat.reduceAdd, Nat.reduceLeDiff, Nat.reduceEqDiff, Nat.reduceSub, Nat.reduceMul, Nat.reduceDiv, SOper.again, same, sameBlk, sameCap, Nat.reduceBneDiff, s_draw2, s_pair, k_pair, asunder, SOper.into, Bool.not_false, Bool.not_true, h1, g0, List.append_assoc]
    · rintro fr H K' ⟨h1, h4, h3, g0⟩ hKe hKr
      rw [List.take_length] at h3
      have hf : ([40] ++ D.txts l).length + [41].length ≤ 4611686018427387904 := by simp only [List.length_append, List.length_singleton]; omega
      generalize hS : [40] ++ D.txts l = S at *
      simp -implicitDefEqProofs only [List.length_singleton] at hf
      simp -implicitDefEqProofs only [c24_l0, ↓v_lenS, SB, POp.val, AOp.val, WOp.val, Lite.bin, intBin, strBin, eqv, eqMany, eq1, AV.asBool, AV.asInt, AV.asNat, AV.asPtr, AV.asStr, resVals, ResV.val, oneOr, wants, skipped, fillAt, putAt, capOf, optNat, bnd, Nat.reduceBEq, reduceIte, Nat.reduceAdd, Nat.reduceLeDiff, Nat.reduceEqDiff, Nat.reduceSub, Nat.reduceMul, Nat.reduceDiv, SOper.again, same, sameBlk, sameCap, Nat.reduceBneDiff, s_draw2, s_pair, k_pair, asunder, SOper.into, Bool.not_false, Bool.not_true, DS, h1, h4, h3, g0, Int.lt_irrefl, hKe, gives_ret, Ends, hf]
      exact ⟨_, by rw [hT]⟩
    · simp -implicitDefEqProofs only [↓v_lenS, SB, POp.val, AOp.val, WOp.val, Lite.bin, intBin, strBin, eqv, eqMany, eq1, AV.asBool, AV.asInt, AV.asNat, AV.asPtr, AV.asStr, resVals, ResV.val, oneOr, wants, skipped, fillAt, putAt, capOf, optNat, bnd, Nat.reduceBEq, reduceIte, Nat.reduceAdd, Nat.reduceLeDiff, Nat.reduceEqDiff, Nat.reduceSub, Nat.reduceMul, Nat.reduceDiv, SOper.again, same, sameBlk, sameCap, Nat.reduceBneDiff, s_draw2, s_pair, k_pair, asunder, SOper.into, Bool.not_false, Bool.not_true, List.take_zero, D.txts]
      rfl
  · rw [if_neg hk]
    refine Ret.of rfl (code24 _ _) rfl rfl (fun H => by simp -implicitDefEqProofs only [↓v_lenS, SB, POp.val, AOp.val, WOp.val, Lite.bin, intBin, strBin, eqv, eqMany, eq1, AV.asBool, AV.asInt, AV.asNat, AV.asPtr, AV.asStr, resVals, ResV.val, oneOr, wants, skipped, fillAt, putAt, capOf, optNat, bnd, Nat.reduceBEq, reduceIte, Nat.reduceAdd, Nat.reduceLeDiff, Nat.reduceEqDiff, Nat.reduceSub, Nat.reduceMul, Nat.reduceDiv, SOper.again, same, sameBlk, sameCap, Nat.reduceBneDiff, s_draw2, s_pair, k_pair, asunder, SOper.into, Bool.not_false, Bool.not_true, DS]) (Ev.of fun n H => ?_)
    have h4 : (k != 4) = true := by simpa using hk
    simp -implicitDefEqProofs only [c24, ↓v_lenS, SB, POp.val, AOp.val, WOp.val, Lite.bin, intBin, strBin, eqv, eqMany, eq1, AV.asBool, AV.asInt, AV.asNat, AV.asPtr, AV.asStr, resVals, ResV.val, oneOr, wants, skipped, fillAt, putAt, capOf, optNat, bnd, Nat.reduceBEq, reduceIte, Nat.reduceAdd, Nat.reduceLeDiff, Nat.reduceEqDiff, Nat.reduceSub, Nat.reduceMul, Nat.reduceDiv, SOper.again, same, sameBlk, sameCap, Nat.reduceBneDiff, s_draw2, s_pair, k_pair, asunder, SOper.into, Bool.not_false, Bool.not_true, DS, h4, Ends, gives_ret]
    exact ⟨_, rfl⟩

mutual
/-- has a datum no marks? -/
def D.bare : D → Bool
  | .mk _ _ ms l _ => ms.isEmpty && D.bares l
def D.bares : List D → Bool
  | [] => true
  | d :: ds => d.bare && D.bares ds
end

theorem D.bares_eq (l : List D) : D.bares l = l.all D.bare := by
  induction l with
  | nil => rfl
  | cons d l ih => rw [D.bares, ih, List.all_cons]

theorem bare28 : ∀ d : D, d.fit → Ret P2 28 [d.v] (.bool d.bare) := D.indA fun k t ms l a ih hfit => by
  rw [D.fit, D.fits_iff] at hfit
  obtain ⟨f1, f2, f3⟩ := hfit
  rw [D.bare, D.bares_eq]
  refine Ret.of rfl (code28 _ _) rfl rfl (fun H => by simp -implicitDefEqProofs only [↓v_lenS, SB, POp.val, AOp.val, WOp.val, Lite.bin, intBin, strBin, eqv, eqMany, eq1, AV.asBool, AV.asInt, AV.asNat, AV.asPtr, AV.asStr, resVals, ResV.val, oneOr, wants, skipped, fillAt, putAt, capOf, optNat, bnd, Nat.reduceBEq, reduceIte, Nat.reduceAdd, Nat.reduceLeDiff, Nat.reduceEqDiff, Nat.reduceSub, Nat.reduceMul, Nat.reduceDiv, SOper.again, same, sameBlk, sameCap, Nat.reduceBneDiff, s_draw2, s_pair, k_pair, asunder, SOper.into, Bool.not_false, Bool.not_true, DS]) ?_
  refine ((Ev.all l fun d hd => ih d hd (f3 d hd)).and (Ev.ge (l.length + 1))).mono fun n hn H => ?_
  obtain ⟨ihn, hge⟩ := hn
  cases ms with
  | cons m ms =>
    have hg : ((List.length (m :: ms) : Nat) : Int) > 0 := by simp only [List.length_cons]; omega
    simp -implicitDefEqProofs only [List.length_cons] at hg
    simp -implicitDefEqProofs only [c28, ↓v_lenS, SB, POp.val, AOp.val, WOp.val, Lite.bin, intBin, strBin, eqv, eqMany, eq1, AV.asBool, AV.asInt, AV.asNat, AV.asPtr, AV.asStr, resVals, ResV.val, oneOr, wants, skipped, fillAt, putAt, capOf, optNat, bnd, Nat.reduceBEq, reduceIte, Nat.reduceAdd, Nat.reduceLeDiff, Nat.reduceEqDiff, Nat.reduceSub, Nat.reduceMul, Nat.reduceDiv, SOper.again, same, sameBlk, sameCap, Nat.reduceBneDiff, s_draw2, s_pair, k_pair, asunder, SOper.into, Bool.not_false, Bool.not_true, DS, hg, Ends, gives_ret, List.isEmpty_cons]
    exact ⟨_, rfl⟩
  | nil =>
    have hg : ¬ ((List.length ([] : List Int) : Nat) : Int) > 0 := by simp
    simp -implicitDefEqProofs only [List.length_nil] at hg
    simp -implicitDefEqProofs only [c28, ↓v_lenS, SB, POp.val, AOp.val, WOp.val, Lite.bin, intBin, strBin, eqv, eqMany, eq1, AV.asBool, AV.asInt, AV.asNat, AV.asPtr, AV.asStr, resVals, ResV.val, oneOr, wants, skipped, fillAt, putAt, capOf, optNat, bnd, Nat.reduceBEq, reduceIte, Nat.reduceAdd, Nat.reduceLeDiff, Nat.reduceEqDiff, Nat.reduceSub, Nat.reduceMul, Nat.reduceDiv, SOper.again, same, sameBlk, sameCap, Nat.reduceBneDiff, s_draw2, s_pair, k_pair, asunder, SOper.into, Bool.not_false, Bool.not_true, DS, hg]
    refine loop_rounds l.length (fun i fr H => (∀ j, j < i → ∀ d, l[j]? = some d → d.bare = true) ∧ fr 1 = .ptr (.new 0) 0 ∧ fr 3 = .int .i64 i ∧ H.t.get 0 = some (.row [.int .i64 k, .str t, vInts [], vData l, .int .i64 a] 0 false (some 30))) ?_ ?_ n 0 _ _ (by omega) (by omega) ?_
    · rintro i fr H K' hi ⟨hall, h1, h3, g0⟩ hKe hKr hK
      obtain ⟨d, hd⟩ : ∃ d, l[i]? = some d := ⟨l[i], List.getElem?_eq_getElem hi⟩
      have e1 := ihn d (List.mem_of_getElem? hd)
      have hlt : (i : Int) < (l.length : Int) := by omega
      have hw := wrap_succ hi (by omega)
      cases hp : d.bare with
      | true =>
        have hnext : ∀ j, j < i + 1 → ∀ d, l[j]? = some d → d.bare = true := fun j hj d' hd' => by
          rcases Nat.lt_or_ge j i with h | h
          · exact hall j h d' hd'
          · obtain rfl : j = i := by omega
            rw [hd] at hd'
            simp only [Option.some.injEq] at hd'
            subst hd'; exact hp
        rw [hp] at e1
        obtain ⟨kd, td, md, ld, ad⟩ := d
        rw [D.v_mk] at e1
        simp -implicitDefEqProofs only [c28_l0, ↓v_lenS, SB, POp.val, AOp.val, WOp.val, Lite.bin, intBin, strBin, eqv, eqMany, eq1, AV.asBool, AV.asInt, AV.asNat, AV.asPtr, AV.asStr, resVals, ResV.val, oneOr, wants, skipped, fillAt, putAt, capOf, optNat, bnd, Nat.reduceBEq, reduceIte, Nat.reduceAdd, Nat.reduceLeDiff, Nat.reduceEqDiff, Nat.reduceSub, Nat.reduceMul, Nat.reduceDiv, SOper.again, same, sameBlk, sameCap, Nat.reduceBneDiff, s_draw2, s_pair, k_pair, asunder, SOper.into, Bool.not_false, Bool.not_true, h1, h3, g0, hlt, iaddr_vData hd, DS, CL, e1, hw]
        refine hK _ _ ⟨hnext, ?_⟩
        simp -implicitDefEqProofs only [↓v_lenS, SB, POp.val, AOp.val, WOp.val, Lite.bin, intBin, strBin, eqv, eqMany, eq1, AV.asBool, AV.asInt, AV.asNat, AV.asPtr, AV.asStr, resVals, ResV.val, oneOr, wants, skipped, fillAt, putAt, capOf, optNat, bnd, Nat.reduceBEq, reduceIte, Nat.reduceAdd, Nat.reduceLeDiff, Nat.reduceEqDiff, Nat.reduceSub, Nat.reduceMul, Nat.reduceDiv, SOper.again, same, sameBlk, sameCap, Nat.reduceBneDiff, s_draw2, s_pair, k_pair, asunder, SOper.into, Bool.not_false, Bool.not_true, h1, g0]
      | false =>
        have hno : l.all D.bare = false := by
          rw [List.all_eq_false]
          exact ⟨d, List.mem_of_getElem? hd, by simp [hp]⟩
        rw [hp] at e1
        obtain ⟨kd, td, md, ld, ad⟩ := d
        rw [D.v_mk] at e1
        simp -implicitDefEqProofs only [c28_l0, ↓v_lenS, SB, POp.val, AOp.val, WOp.val, Lite.bin, intBin, strBin, eqv, eqMany, eq1, AV.asBool, AV.asInt, AV.asNat, AV.asPtr, AV.asStr, resVals, ResV.val, oneOr, wants, skipped, fillAt, putAt, capOf, optNat, bnd, Nat.reduceBEq, reduceIte, Nat.reduceAdd, Nat.reduceLeDiff, Nat.reduceEqDiff, Nat.reduceSub, Nat.reduceMul, Nat.reduceDiv, SOper.again, same, sameBlk, sameCap, Nat.reduceBneDiff, s_draw2, s_pair, k_pair, asunder, SOper.into, Bool.not_false, Bool.not_true, h1, h3, g0, hlt, iaddr_vData hd, DS, CL, e1, hw, hKr, gives_ret, hno]
        exact ⟨_, rfl⟩
    · rintro fr H K' ⟨hall, h1, h3, g0⟩ hKe hKr
      have hyes : l.all D.bare = true := List.all_eq_true.2 fun d hd => by
        obtain ⟨i, hi, rfl⟩ := List.getElem_of_mem hd
        exact hall i hi _ (List.getElem?_eq_getElem hi)
      simp -implicitDefEqProofs only [c28_l0, ↓v_lenS, SB, POp.val, AOp.val, WOp.val, Lite.bin, intBin, strBin, eqv, eqMany, eq1, AV.asBool, AV.asInt, AV.asNat, AV.asPtr, AV.asStr, resVals, ResV.val, oneOr, wants, skipped, fillAt, putAt, capOf, optNat, bnd, Nat.reduceBEq, reduceIte, Nat.reduceAdd, Nat.reduceLeDiff, Nat.reduceEqDiff, Nat.reduceSub, Nat.reduceMul, Nat.reduceDiv, SOper.again, same, sameBlk, sameCap, Nat.reduceBneDiff, s_draw2, s_pair, k_pair, asunder, SOper.into, Bool.not_false, Bool.not_true, DS, h1, h3, g0, Int.lt_irrefl, hKe, gives_ret, hyes]
      exact ⟨_, rfl⟩
    · simp -implicitDefEqProofs only [↓v_lenS, SB, POp.val, AOp.val, WOp.val, Lite.bin, intBin, strBin, eqv, eqMany, eq1, AV.asBool, AV.asInt, AV.asNat, AV.asPtr, AV.asStr, resVals, ResV.val, oneOr, wants, skipped, fillAt, putAt, capOf, optNat, bnd, Nat.reduceBEq, reduceIte, Nat.reduceAdd, Nat.reduceLeDiff, Nat.reduceEqDiff, Nat.reduceSub, Nat.reduceMul, Nat.reduceDiv, SOper.again, same, sameBlk, sameCap, Nat.reduceBneDiff, s_draw2, s_pair, k_pair, asunder, SOper.into, Bool.not_false, Bool.not_true]
      exact ⟨fun j hj => by omega, rfl⟩

mutual
/-- are two data the same, places too? -/
def D.places : D → D → Bool
  | .mk k t ms l a, .mk k' t' ms' l' a' => (D.mk k t ms l a).same (.mk k' t' ms' l' a') && (a == a' && D.placess l l')
def D.placess : List D → List D → Bool
  | [], [] => true
  | x :: xs, y :: ys => D.places x y && D.placess xs ys
  | _, _ => false
end

theorem D.placess_eq : ∀ l l' : List D, D.placess l l' = zipAll D.places l l'
  | [], [] => by simp [D.placess, zipAll]
  | [], y :: ys => by simp [D.placess, zipAll]
  | x :: xs, [] => by simp [D.placess, zipAll]
  | x :: xs, y :: ys => by rw [D.placess, zipAll, D.placess_eq xs ys]

theorem D.same_len {k t ms l a k' t' ms' l' a'} (h : (D.mk k t ms l a).same (.mk k' t' ms' l' a') = true) : l.length = l'.length := by
  rw [D.same, D.sames_eq] at h
  simp only [Bool.and_eq_true] at h
  rcases Nat.decEq l.length l'.length with h1 | h1
  · rw [zipAll_len l l' h1] at h; simp at h
  · exact h1

theorem places19 : ∀ a : D, a.fit → ∀ b : D, Ret P2 19 [a.v, b.v] (.bool (a.places b)) := D.indA fun k t ms l a ih hfit b => by
  have hfit0 := hfit
  obtain ⟨k', t', ms', l', a'⟩ := b
  rw [D.fit, D.fits_iff] at hfit
  obtain ⟨f1, f2, f3⟩ := hfit
  rw [D.places, D.placess_eq]
  refine Ret.of rfl (code19 _ _) rfl rfl (fun H => by simp -implicitDefEqProofs only [↓v_lenS, SB, POp.val, AOp.val, WOp.val, Lite.bin, intBin, strBin, eqv, eqMany, eq1, AV.asBool, AV.asInt, AV.asNat, AV.asPtr, AV.asStr, resVals, ResV.val, oneOr, wants, skipped, fillAt, putAt, capOf, optNat, bnd, Nat.reduceBEq, reduceIte, Nat.reduceAdd, Nat.reduceLeDiff, Nat.reduceEqDiff, Nat.reduceSub, Nat.reduceMul, Nat.reduceDiv, SOper.again, same, sameBlk, sameCap, Nat.reduceBneDiff, s_draw2, s_pair, k_pair, asunder, SOper.into, Bool.not_false, Bool.not_true, DS]) ?_
  refine ((same25 _ hfit0 (.mk k' t' ms' l' a')).and ((Ev.all l fun d hd => Ev.all l' fun d' _ => ih d hd (f3 d hd) d').and (Ev.ge (l.length + 1)))).mono fun n hn H => ?_
  obtain ⟨e0, ihn, hge⟩ := hn
  simp only [D.v_mk] at e0
  have b1 : (a != a') = !(a == a') := rfl
  cases hs : (D.mk k t ms l a).same (.mk k' t' ms' l' a') with
  | false =>
    rw [hs] at e0
    simp -implicitDefEqProofs only [c19, ↓v_lenS, SB, POp.val, AOp.val, WOp.val, Lite.bin, intBin, strBin, eqv, eqMany, eq1, AV.asBool, AV.asInt, AV.asNat, AV.asPtr, AV.asStr, resVals, ResV.val, oneOr, wants, skipped, fillAt, putAt, capOf, optNat, bnd, Nat.reduceBEq, reduceIte, Nat.reduceAdd, Nat.reduceLeDiff, Nat.reduceEqDiff, Nat.reduceSub, Nat.reduceMul, Nat.reduceDiv, SOper.again, same, sameBlk, sameCap, Nat.reduceBneDiff, s_draw2, s_pair, k_pair, asunder, SOper.into, Bool.not_false, Bool.not_true, CL, DS, e0, Ends, gives_ret]
    exact ⟨_, rfl⟩
  | true =>
    have c4 := D.same_len hs
    rw [hs] at e0
    cases ha : (a == a') with
    | false =>
      simp -implicitDefEqProofs only [c19, ↓v_lenS, SB, POp.val, AOp.val, WOp.val, Lite.bin, intBin, strBin, eqv, eqMany, eq1, AV.asBool, AV.asInt, AV.asNat, AV.asPtr, AV.asStr, resVals, ResV.val, oneOr, wants, skipped, fillAt, putAt, capOf, optNat, bnd, Nat.reduceBEq, reduceIte, Nat.reduceAdd, Nat.reduceLeDiff, Nat.reduceEqDiff, Nat.reduceSub, Nat.reduceMul, Nat.reduceDiv, SOper.again, same, sameBlk, sameCap, Nat.reduceBneDiff, s_draw2, s_pair, k_pair, asunder, SOper.into, Bool.not_false, Bool.not_true, CL, DS, e0, b1, ha, Ends, gives_ret]
      exact ⟨_, rfl⟩
    | true =>
      simp -implicitDefEqProofs only [c19, ↓v_lenS, SB, POp.val, AOp.val, WOp.val, Lite.bin, intBin, strBin, eqv, eqMany, eq1, AV.asBool, AV.asInt, AV.asNat, AV.asPtr, AV.asStr, resVals, ResV.val, oneOr, wants, skipped, fillAt, putAt, capOf, optNat, bnd, Nat.reduceBEq, reduceIte, Nat.reduceAdd, Nat.reduceLeDiff, Nat.reduceEqDiff, Nat.reduceSub, Nat.reduceMul, Nat.reduceDiv, SOper.again, same, sameBlk, sameCap, Nat.reduceBneDiff, s_draw2, s_pair, k_pair, asunder, SOper.into, Bool.not_false, Bool.not_true, CL, DS, e0, b1, ha]
      refine loop_rounds l.length (fun i fr H => (∀ j, j < i → ∀ a b, l[j]? = some a → l'[j]? = some b → D.places a b = true) ∧ fr 2 = .ptr (.new 0) 0 ∧ fr 3 = .ptr (.new 1) 0 ∧ fr 5 = .int .i64 i ∧
          H.t.get 0 = some (.row [.int .i64 k, .str t, vInts ms, vData l, .int .i64 a] 0 false (some 30)) ∧ H.t.get 1 = some (.row [.int .i64 k', .str t', vInts ms', vData l', .int .i64 a'] 0 false (some 30))) ?_ ?_ n 0 _ _ (by omega) (by omega) ?_
      · rintro i fr H K' hi ⟨hall, h2, h3, h5, g0, g1⟩ hKe hKr hK
        obtain ⟨x, y, hx, hy⟩ := get2 c4 hi
        have e1 := ihn x (List.mem_of_getElem? hx) y (List.mem_of_getElem? hy)
        have hlt : (i : Int) < (l.length : Int) := by omega
        have hw := wrap_succ hi (by omega)
        cases hp : D.places x y with
        | true =>
          have hnext := next_all hall hx hy hp
          rw [hp] at e1
          obtain ⟨kx, tx, mx, lx, ax⟩ := x
          obtain ⟨ky, ty, my, ly, ay⟩ := y
          simp only [D.v_mk] at e1
          simp -implicitDefEqProofs only [c19_l0, ↓v_lenS, SB, POp.val, AOp.val, WOp.val, Lite.bin, intBin, strBin, eqv, eqMany, eq1, AV.asBool, AV.asInt, AV.asNat, AV.asPtr, AV.asStr, resVals, ResV.val, oneOr, wants, skipped, fillAt, putAt, capOf, optNat, bnd, Nat.reduceBEq, reduceIte, Nat.reduceAdd, Nat.reduceLeDiff, Nat.reduceEqDiff, Nat.reduceSub, Nat.reduceMul, Nat.reduceDiv, SOper.again, same, sameBlk, sameCap, Nat.reduceBneDiff, s_draw2, s_pair, k_pair, asunder, SOper.into, Bool.not_false, Bool.not_true, CL, DS, h2, h3, h5, g0, g1, hlt, iaddr_vData hx, iaddr_vData hy, e1, hw]
          refine hK _ _ ⟨hnext, ?_⟩
          simp -implicitDefEqProofs only [↓v_lenS, SB, POp.val, AOp.val, WOp.val, Lite.bin, intBin, strBin, eqv, eqMany, eq1, AV.asBool, AV.asInt, AV.asNat, AV.asPtr, AV.asStr, resVals, ResV.val, oneOr, wants, skipped, fillAt, putAt, capOf, optNat, bnd, Nat.reduceBEq, reduceIte, Nat.reduceAdd, Nat.reduceLeDiff, Nat.reduceEqDiff, Nat.reduceSub, Nat.reduceMul, Nat.reduceDiv, SOper.again, same, sameBlk, sameCap, Nat.reduceBneDiff, s_draw2, s_pair, k_pair, asunder, SOper.into, Bool.not_false, Bool.not_true, h2, h3, h5, g0, g1]
        | false =>
          have hno := all_not c4 hx hy hp
          rw [hp] at e1
          obtain ⟨kx, tx, mx, lx, ax⟩ := x
          obtain ⟨ky, ty, my, ly, ay⟩ := y
          simp only [D.v_mk] at e1
          simp -implicitDefEqProofs only [c19_l0, ↓v_lenS, SB, POp.val, AOp.val, WOp.val, Lite.bin, intBin, strBin, eqv, eqMany, eq1, AV.asBool, AV.asInt, AV.asNat, AV.asPtr, AV.asStr, resVals, ResV.val, oneOr, wants, skipped, fillAt, putAt, capOf, optNat, bnd, Nat.reduceBEq, reduceIte, Nat.reduceAdd, Nat.reduceLeDiff, Nat.reduceEqDiff, Nat.reduceSub, Nat.reduceMul, Nat.reduceDiv, SOper.again, same, sameBlk, sameCap, Nat.reduceBneDiff, s_draw2, s_pair, k_pair, asunder, SOper.into, Bool.not_false, Bool.not_true, CL, DS, h2, h3, h5, g0, g1, hlt, iaddr_vData hx, iaddr_vData hy, e1, hw, hKr, gives_ret, hno]
          exact ⟨_, rfl⟩
      · rintro fr H K' ⟨hall, h2, h3, h5, g0, g1⟩ hKe hKr
        have hyes := all_end c4 hall
        simp -implicitDefEqProofs only [c19_l0, ↓v_lenS, SB, POp.val, AOp.val, WOp.val, Lite.bin, intBin, strBin, eqv, eqMany, eq1, AV.asBool, AV.asInt, AV.asNat, AV.asPtr, AV.asStr, resVals, ResV.val, oneOr, wants, skipped, fillAt, putAt, capOf, optNat, bnd, Nat.reduceBEq, reduceIte, Nat.reduceAdd, Nat.reduceLeDiff, Nat.reduceEqDiff, Nat.reduceSub, Nat.reduceMul, Nat.reduceDiv, SOper.again, same, sameBlk, sameCap, Nat.reduceBneDiff, s_draw2, s_pair, k_pair, asunder, SOper.into, Bool.not_false, Bool.not_true, DS, h2, h3, h5, g0, g1, Int.lt_irrefl, hKe, gives_ret, hyes]
        exact ⟨_, rfl⟩
      · simp -implicitDefEqProofs only [↓v_lenS, SB, POp.val, AOp.val, WOp.val, Lite.bin, intBin, strBin, eqv, eqMany, eq1, AV.asBool, AV.asInt, AV.asNat, AV.asPtr, AV.asStr, resVals, ResV.val, oneOr, wants, skipped, fillAt, putAt, capOf, optNat, bnd, Nat.reduceBEq, reduceIte, Nat.reduceAdd, Nat.reduceLeDiff, Nat.reduceEqDiff, Nat.reduceSub, Nat.reduceMul, Nat.reduceDiv, SOper.again, same, sameBlk, sameCap, Nat.reduceBneDiff, s_draw2, s_pair, k_pair, asunder, SOper.into, Bool.not_false, Bool.not_true]
        exact ⟨fun j hj => by omega, rfl⟩

end Go.Lite
