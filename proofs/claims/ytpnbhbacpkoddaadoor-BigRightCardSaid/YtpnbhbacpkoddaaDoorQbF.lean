/-
  Several texts in one: BLawD.
-/
import Derived.Test.YtpnbhbacpkoddaaDoorQbD

/-
  The law BigEnds.
-/
namespace Go.Lite
open Go Go.Proofs
set_option maxRecDepth 100000
set_option linter.unusedSimpArgs false
set_option linter.unusedVariables false

theorem decN_digAll (n : Nat) : (decN n).all dig = true := by
  rw [List.all_eq_true]; intro c hc; rw [dig_iff]; exact decN_digs n c hc

theorem right_decZ {z : Int} (h : z.natAbs < 10 ^ 200) : rightB (decZ z) = true := by
  unfold rightB rightT
  rw [negS_decZ, cutS_decZ]
  have h1 := decN_len_le (n := z.natAbs) (k := 200) (by omega)
  have h2 := h1.2 h
  have h3 : (decN z.natAbs).isEmpty = false := by
    cases hd : decN z.natAbs with
    | nil => exact absurd hd (decN_ne _)
    | cons c t => rfl
  rw [h3, decide_eq_true h2, decN_digAll]
  by_cases h0 : (decN z.natAbs)[0]? = some 48
  · have hz := decN_head _ h0
    have : decN z.natAbs = [48] := by rw [hz]; exact decN_small (by omega)
    have hneg : decide (z < 0) = false := decide_eq_false (by omega)
    rw [this, hneg]; rfl
  · have : ((decN z.natAbs)[0]? == some 48) = false := by simpa using h0
    rw [this]; rfl

def ninS (i : Nat) : Str := List.replicate i 57
theorem ninS_succ (i : Nat) : ninS (i + 1) = ninS i ++ [57] := by unfold ninS; rw [List.replicate_succ']
theorem ninS_dec : ∀ i, 0 < i → ninS i = decN (10 ^ i - 1)
  | 0, h => by omega
  | 1, _ => by rw [show 10 ^ 1 - 1 = 9 from rfl, decN_small (by omega)]; rfl
  | i + 2, _ => by
    have ih := ninS_dec (i + 1) (by omega)
    have hp : 0 < (10 : Nat) ^ i := Nat.pow_pos (by omega)
    have e1 : (10 : Nat) ^ (i + 1) = 10 ^ i * 10 := Nat.pow_succ ..
    have e2 : (10 : Nat) ^ (i + 2) = 10 ^ (i + 1) * 10 := Nat.pow_succ ..
    rw [ninS_succ, ih, show 10 ^ (i + 2) - 1 = 10 * (10 ^ (i + 1) - 1) + 9 by omega, decN_step (by omega) (by omega)]
theorem ten_dec (i : Nat) : decN (10 ^ (i + 1)) = decN (10 ^ i) ++ [48] := by
  have hp : 0 < (10 : Nat) ^ i := Nat.pow_pos (by omega)
  rw [Nat.pow_succ, Nat.mul_comm, show 10 * 10 ^ i = 10 * 10 ^ i + 0 by omega, decN_step hp (by omega)]

theorem decZ_len200 {z : Int} (h1 : 10 ^ 199 ≤ z.natAbs) (h2 : z.natAbs < 10 ^ 200) : (decZ z).length = if z < 0 then 201 else 200 := by
  have a1 := (decN_len_le (n := z.natAbs) (k := 200) (by omega)).2 h2
  have a2 : ¬ (decN z.natAbs).length ≤ 199 := fun h => by have := (decN_len_le (n := z.natAbs) (k := 199) (by omega)).1 h; omega
  unfold decZ
  by_cases h : z < 0
  · rw [if_pos h, if_pos h, List.length_cons]; omega
  · rw [if_neg h, if_neg h]; omega

theorem law7 (k : Int) (b : Bool) : Ret P4 7 [.int .i64 k, .bool b] (.bool true) := by
  refine Ret.of rfl (code7 _ _) rfl rfl (fun H => by simp -implicitDefEqProofs only [↓v_lenS, SB, POp.val, AOp.val, WOp.val, Lite.bin, intBin, strBin, eqv, eqMany, eq1, AV.asBool, AV.asInt, AV.asNat, AV.asPtr, AV.asStr, resVals, ResV.val, oneOr, wants, skipped, fillAt, putAt, capOf, optNat, bnd, Nat.reduceBEq, reduceIte, Nat.reduceAdd, Nat.reduceLeDiff, Nat.reduceEqDiff, Nat.reduceSub, Nat.reduceMul, Nat.reduceDiv, SOper.again, same, sameBlk, sameCap, Nat.reduceBneDiff, s_draw2, s_pair, k_pair, asunder, SOper.into, Bool.not_false, Bool.not_true]) ?_
  have hw := within_range k (b := 100) (by omega) (by omega)
  have h15 := within15 k 100 (by omega)
  obtain ⟨N, hN⟩ : ∃ N : Nat, within k 100 = (N : Int) := ⟨(within k 100).toNat, by omega⟩
  rw [hN] at h15
  have hN1 : N < 100 := by omega
  have e199 : (10 : Nat) ^ 200 = 10 ^ 199 * 10 := Nat.pow_succ ..
  have hp199 : 2 < (10 : Nat) ^ 199 := by decide
  obtain ⟨X, hX⟩ : ∃ X : Int, X = if b then -((10 ^ 200 - 1 : Nat) : Int) else ((10 ^ 200 - 1 : Nat) : Int) := ⟨_, rfl⟩
  obtain ⟨U, hU⟩ : ∃ U : Int, U = if b then -1 else 1 := ⟨_, rfl⟩
  have hXa : X.natAbs = 10 ^ 200 - 1 := by rw [hX]; split <;> omega
  have hUa : U.natAbs = 1 := by rw [hU]; split <;> rfl
  have hsum : (X + U).natAbs = 10 ^ 200 := by rw [hX, hU]; cases b <;> simp <;> omega
  have hdif : (X - U).natAbs = 10 ^ 200 - 2 := by rw [hX, hU]; cases b <;> simp <;> omega
  have hsgn : (X - U < 0) ↔ X < 0 := by rw [hX, hU]; cases b <;> simp <;> omega
  have hXt : decZ X = if b then 45 :: ninS 200 else ninS 200 := by
    rw [hX, ninS_dec 200 (by omega)]
    cases b with
    | true => rw [if_pos rfl, if_pos rfl, decZ_neg (by omega)]
    | false => rw [if_neg (by simp), if_neg (by simp), decZ_nonneg]
  have z1 : decZ 1 = [49] := by rw [show (1 : Int) = ((1 : Nat) : Int) from rfl, decZ_nonneg]; exact decN_small (by omega)
  have hUt : decZ U = if b then [45, 49] else [49] := by
    rw [hU]
    cases b with
    | true => rw [if_pos rfl, if_pos rfl, decZ_flip (by omega), z1]
    | false => rw [if_neg (by simp), if_neg (by simp), z1]
  have r12 := add21 X U (k := 200) (by omega) (by omega) (by omega)
  have r14 := sub18 X U (k := 200) (by omega) (by omega) (by omega)
  have hP : ((10 ^ (100 + N) : Nat) : Int).natAbs < 10 ^ 200 := by
    rw [Int.natAbs_natCast]; exact Nat.pow_lt_pow_right (by omega) (by omega)
  have r16 := mul20 ((10 ^ (100 + N) : Nat) : Int) ((10 ^ (100 + N) : Nat) : Int) hP hP (by omega)
  have r18 := mul20 X 1 (k := 200) (by omega) (by decide) (by omega)
  have hbig : ¬ (((10 ^ (100 + N) : Nat) : Int) * ((10 ^ (100 + N) : Nat) : Int)).natAbs < 10 ^ 200 := by
    rw [Int.natAbs_mul, Int.natAbs_natCast, ← Nat.pow_add]
    have := Nat.pow_le_pow_right (n := 10) (by omega) (show 200 ≤ 100 + N + (100 + N) by omega)
    omega
  have o12 : opT (X + U) = .tuple [.str [], .bool false] := by unfold opT opZ; rw [if_neg (by omega), decide_eq_false (by omega)]
  have o16 : opT (((10 ^ (100 + N) : Nat) : Int) * ((10 ^ (100 + N) : Nat) : Int)) = .tuple [.str [], .bool false] := by unfold opT opZ; rw [if_neg hbig, decide_eq_false hbig]
  rw [o12] at r12
  rw [opT_small (by omega)] at r14
  rw [o16, decZ_nonneg] at r16
  rw [Int.mul_one, opT_small (by omega)] at r18
  rw [z1] at r18
  have hlen : ((decZ (X - U)).length : Int) = ((decZ X).length : Int) := by
    rw [decZ_len200 (z := X - U) (by omega) (by omega), decZ_len200 (z := X) (by omega) (by omega)]
    simp only [hsgn]
  have hR := right16 (decZ X) (by rw [decZ_len200 (z := X) (by omega) (by omega)]; split <;> decide)
  rw [right_decZ (by omega)] at hR
  have hll : (ninS 200).length = 200 := by unfold ninS; exact List.length_replicate
  clear o12 o16 hbig hXa hUa hsum hdif hsgn hP hX hU e199 hp199
  refine (known13.and (h15.and (r12.and (r14.and (r16.and (r18.and (hR.and (Ev.ge 400)))))))).mono fun n e H => ?_
  obtain ⟨e0, e1, e2, e3, e4, e5, e6, hge⟩ := e
  generalize decZ (X - U) = sD at *
  generalize hsX : decZ X = sX at *
  generalize hsU : decZ U = sU at *
  simp -implicitDefEqProofs only [c7, ↓v_lenS, SB, POp.val, AOp.val, WOp.val, Lite.bin, intBin, strBin, eqv, eqMany, eq1, AV.asBool, AV.asInt, AV.asNat, AV.asPtr, AV.asStr, resVals, ResV.val, oneOr, wants, skipped, fillAt, putAt, capOf, optNat, bnd, Nat.reduceBEq, reduceIte, Nat.reduceAdd, Nat.reduceLeDiff, Nat.reduceEqDiff, Nat.reduceSub, Nat.reduceMul, Nat.reduceDiv, SOper.again, same, sameBlk, sameCap, Nat.reduceBneDiff, s_draw2, s_pair, k_pair, asunder, SOper.into, Bool.not_false, Bool.not_true, CL, e0, e1]
  refine loop_rounds 200 (fun i fr H => fr 1 = .bool b ∧ fr 5 = .int .i64 (N : Int) ∧ fr 6 = .str (ninS i) ∧ fr 7 = .str [49] ∧ fr 8 = .int .i64 (i : Nat)) ?_ ?_ n 0 _ _ (by omega) (by omega) ?_
  · rintro i fr H K' hi ⟨h1, h5, h6, h7, h8⟩ hKe hKr hK
    have hlt : (i : Int) < 200 := by omega
    have hw := wrap_succ (i := i) (n := 200) hi (by omega)
    have hl : (ninS i).length + 1 ≤ 4611686018427387904 := by unfold ninS; rw [List.length_replicate]; omega
    rw [ninS_succ] at hK
    generalize ninS i = s at *
    simp -implicitDefEqProofs only [c7_l0, ↓v_lenS, SB, POp.val, AOp.val, WOp.val, Lite.bin, intBin, strBin, eqv, eqMany, eq1, AV.asBool, AV.asInt, AV.asNat, AV.asPtr, AV.asStr, resVals, ResV.val, oneOr, wants, skipped, fillAt, putAt, capOf, optNat, bnd, Nat.reduceBEq, reduceIte, Nat.reduceAdd, Nat.reduceLeDiff, Nat.reduceEqDiff, Nat.reduceSub, Nat.reduceMul, Nat.reduceDiv, SOper.again, same, sameBlk, sameCap, Nat.reduceBneDiff, s_draw2, s_pair, k_pair, asunder, SOper.into, Bool.not_false, Bool.not_true, h6, h8, hlt, hl, hw]
    refine hK _ _ ⟨?_, ?_, ?_, ?_, ?_⟩
    all_goals simp -implicitDefEqProofs only [↓v_lenS, SB, POp.val, AOp.val, WOp.val, Lite.bin, intBin, strBin, eqv, eqMany, eq1, AV.asBool, AV.asInt, AV.asNat, AV.asPtr, AV.asStr, resVals, ResV.val, oneOr, wants, skipped, fillAt, putAt, capOf, optNat, bnd, Nat.reduceBEq, reduceIte, Nat.reduceAdd, Nat.reduceLeDiff, Nat.reduceEqDiff, Nat.reduceSub, Nat.reduceMul, Nat.reduceDiv, SOper.again, same, sameBlk, sameCap, Nat.reduceBneDiff, s_draw2, s_pair, k_pair, asunder, SOper.into, Bool.not_false, Bool.not_true, h1, h5, h7]
  · rintro fr H K' ⟨h1, h5, h6, h7, h8⟩ hKe hKr
    have hlt : ¬ ((200 : Nat) : Int) < 200 := by omega
    simp -implicitDefEqProofs only [c7_l0, ↓v_lenS, SB, POp.val, AOp.val, WOp.val, Lite.bin, intBin, strBin, eqv, eqMany, eq1, AV.asBool, AV.asInt, AV.asNat, AV.asPtr, AV.asStr, resVals, ResV.val, oneOr, wants, skipped, fillAt, putAt, capOf, optNat, bnd, Nat.reduceBEq, reduceIte, Nat.reduceAdd, Nat.reduceLeDiff, Nat.reduceEqDiff, Nat.reduceSub, Nat.reduceMul, Nat.reduceDiv, SOper.again, same, sameBlk, sameCap, Nat.reduceBneDiff, s_draw2, s_pair, k_pair, asunder, SOper.into, Bool.not_false, Bool.not_true, h6, h8, hlt, hKe, k_blockE]
    refine loop_rounds (100 + N) (fun i fr H => fr 1 = .bool b ∧ fr 5 = .int .i64 (N : Int) ∧ fr 6 = .str (ninS 200) ∧ fr 7 = .str (decN (10 ^ i)) ∧ fr 9 = .int .i64 (i : Nat)) ?_ ?_ n 0 _ _ (by omega) (by omega) ?_
    · rintro i fr H K' hi ⟨h1, h5, h6, h7, h9⟩ hKe hKr hK
      have hw0 : IntKind.i64.wrap (100 + (N : Int)) = ((100 + N : Nat) : Int) := by rw [wrap64 (by omega) (by omega)]; omega
      have hlt : (i : Int) < ((100 + N : Nat) : Int) := by omega
      have hw := wrap_succ (i := i) (n := 100 + N) hi (by omega)
      have hl : (decN (10 ^ i)).length + 1 ≤ 4611686018427387904 := by
        have := (decN_len_le (n := 10 ^ i) (k := i + 1) (by omega)).2 (Nat.pow_lt_pow_right (by omega) (by omega))
        omega
      rw [ten_dec] at hK
      generalize decN (10 ^ i) = s at *
      simp -implicitDefEqProofs only [c7_l1, ↓v_lenS, SB, POp.val, AOp.val, WOp.val, Lite.bin, intBin, strBin, eqv, eqMany, eq1, AV.asBool, AV.asInt, AV.asNat, AV.asPtr, AV.asStr, resVals, ResV.val, oneOr, wants, skipped, fillAt, putAt, capOf, optNat, bnd, Nat.reduceBEq, reduceIte, Nat.reduceAdd, Nat.reduceLeDiff, Nat.reduceEqDiff, Nat.reduceSub, Nat.reduceMul, Nat.reduceDiv, SOper.again, same, sameBlk, sameCap, Nat.reduceBneDiff, s_draw2, s_pair, k_pair, asunder, SOper.into, Bool.not_false, Bool.not_true, h5, h7, h9, hw0, hlt, hl, hw]
      refine hK _ _ ⟨?_, ?_, ?_, ?_, ?_⟩
      all_goals simp -implicitDefEqProofs only [↓v_lenS, SB, POp.val, AOp.val, WOp.val, Lite.bin, intBin, strBin, eqv, eqMany, eq1, AV.asBool, AV.asInt, AV.asNat, AV.asPtr, AV.asStr, resVals, ResV.val, oneOr, wants, skipped, fillAt, putAt, capOf, optNat, bnd, Nat.reduceBEq, reduceIte, Nat.reduceAdd, Nat.reduceLeDiff, Nat.reduceEqDiff, Nat.reduceSub, Nat.reduceMul, Nat.reduceDiv, SOper.again, same, sameBlk, sameCap, Nat.reduceBneDiff, s_draw2, s_pair, k_pair, asunder, SOper.into, Bool.not_false, Bool.not_true, h1, h5, h6]
    · rintro fr H K' ⟨h1, h5, h6, h7, h9⟩ hKe hKr
      have hw0 : IntKind.i64.wrap (100 + (N : Int)) = ((100 + N : Nat) : Int) := by rw [wrap64 (by omega) (by omega)]; omega
      have w1 : IntKind.i64.wrap (2 * (N : Int)) = ((2 * N : Nat) : Int) := by rw [wrap64 (by omega) (by omega)]; omega
      have w2 : IntKind.i64.wrap (200 + ((2 * N : Nat) : Int)) = ((200 + 2 * N : Nat) : Int) := by rw [wrap64 (by omega) (by omega)]; omega
      have w3 : IntKind.i64.wrap (((200 + 2 * N : Nat) : Int) + 1) = ((200 + 2 * N + 1 : Nat) : Int) := wrap_succ (n := 200 + 2 * N + 1) (by omega) (by omega)
      have w4 : ¬ ((200 + 2 * N + 1 : Nat) : Int) ≤ 200 := by omega
      have hleq : ((sD.length : Int) == (sX.length : Int)) = true := by rw [hlen]; simp
      have hxx : (sX == sX) = true := by simp
      have hcl : 1 + (ninS 200).length ≤ 4611686018427387904 := by rw [hll]; omega
      have hnil : (([] : List Nat) == []) = true := rfl
      generalize ninS 200 = s9 at *
      cases b with
      | true =>
        rw [if_pos rfl] at hXt hUt
        subst hXt; subst hUt
        simp -implicitDefEqProofs only [List.length_cons] at hleq
        simp -implicitDefEqProofs only [c7_l1, ↓v_lenS, SB, POp.val, AOp.val, WOp.val, Lite.bin, intBin, strBin, eqv, eqMany, eq1, AV.asBool, AV.asInt, AV.asNat, AV.asPtr, AV.asStr, resVals, ResV.val, oneOr, wants, skipped, fillAt, putAt, capOf, optNat, bnd, Nat.reduceBEq, reduceIte, Nat.reduceAdd, Nat.reduceLeDiff, Nat.reduceEqDiff, Nat.reduceSub, Nat.reduceMul, Nat.reduceDiv, SOper.again, same, sameBlk, sameCap, Nat.reduceBneDiff, s_draw2, s_pair, k_pair, asunder, SOper.into, Bool.not_false, Bool.not_true, CL, h1, h5, h6, h7, h9, hw0, Int.lt_irrefl, hKe, k_blockE, e2, e3, e4, e5, e6, hcl, w1, w2, w3, w4, hleq, hxx, hnil, gives_ret]
        exact ⟨_, rfl⟩
      | false =>
        rw [if_neg (by simp)] at hXt hUt
        subst hXt; subst hUt
        simp -implicitDefEqProofs only [c7_l1, ↓v_lenS, SB, POp.val, AOp.val, WOp.val, Lite.bin, intBin, strBin, eqv, eqMany, eq1, AV.asBool, AV.asInt, AV.asNat, AV.asPtr, AV.asStr, resVals, ResV.val, oneOr, wants, skipped, fillAt, putAt, capOf, optNat, bnd, Nat.reduceBEq, reduceIte, Nat.reduceAdd, Nat.reduceLeDiff, Nat.reduceEqDiff, Nat.reduceSub, Nat.reduceMul, Nat.reduceDiv, SOper.again, same, sameBlk, sameCap, Nat.reduceBneDiff, s_draw2, s_pair, k_pair, asunder, SOper.into, Bool.not_false, Bool.not_true, CL, h1, h5, h6, h7, h9, hw0, Int.lt_irrefl, hKe, k_blockE, e2, e3, e4, e5, e6, w1, w2, w3, w4, hleq, hxx, hnil, gives_ret]
        exact ⟨_, rfl⟩
    · refine ⟨?_, ?_, ?_, ?_, ?_⟩
      all_goals simp -implicitDefEqProofs only [↓v_lenS, SB, POp.val, AOp.val, WOp.val, Lite.bin, intBin, strBin, eqv, eqMany, eq1, AV.asBool, AV.asInt, AV.asNat, AV.asPtr, AV.asStr, resVals, ResV.val, oneOr, wants, skipped, fillAt, putAt, capOf, optNat, bnd, Nat.reduceBEq, reduceIte, Nat.reduceAdd, Nat.reduceLeDiff, Nat.reduceEqDiff, Nat.reduceSub, Nat.reduceMul, Nat.reduceDiv, SOper.again, same, sameBlk, sameCap, Nat.reduceBneDiff, s_draw2, s_pair, k_pair, asunder, SOper.into, Bool.not_false, Bool.not_true, h1, h5, h6, h7]
      · rw [Nat.pow_zero, decN_small (by omega)]
      · rfl
  · refine ⟨?_, ?_, ?_, ?_, ?_⟩
    all_goals simp -implicitDefEqProofs only [↓v_lenS, SB, POp.val, AOp.val, WOp.val, Lite.bin, intBin, strBin, eqv, eqMany, eq1, AV.asBool, AV.asInt, AV.asNat, AV.asPtr, AV.asStr, resVals, ResV.val, oneOr, wants, skipped, fillAt, putAt, capOf, optNat, bnd, Nat.reduceBEq, reduceIte, Nat.reduceAdd, Nat.reduceLeDiff, Nat.reduceEqDiff, Nat.reduceSub, Nat.reduceMul, Nat.reduceDiv, SOper.again, same, sameBlk, sameCap, Nat.reduceBneDiff, s_draw2, s_pair, k_pair, asunder, SOper.into, Bool.not_false, Bool.not_true]
    all_goals rfl

end Go.Lite
