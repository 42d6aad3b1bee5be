/-
  Several texts in one: BRefSum, BRefQuo.
-/
import Derived.Test.YtpnbhbacpkoddaaDoorQbG

/-
  The document's sums and differences of rows of digits.
-/
namespace Go.Lite
open Go Go.Proofs
set_option maxRecDepth 100000
set_option linter.unusedSimpArgs false
set_option linter.unusedVariables false

theorem plus54 (f g : Bool) (x y : List Nat) (hx : Under 10 x) (hy : Under 10 y) (hlx : x.length ≤ 300000) (hly : y.length ≤ 300000) :
    ∃ z, Ret P4 54 [vN f x, vN g y] (vN true z) ∧ Under 10 z ∧ lval 10 z = lval 10 x + lval 10 y ∧ z.length ≤ x.length + y.length + 1 := by
  have hB : 2 ≤ 10 := by omega
  have hok := plusD_ok hB hx hy
  obtain ⟨M, hM1, hM2, hM3, hM4⟩ : ∃ M : Nat, x.length ≤ M ∧ y.length ≤ M ∧ (M = x.length ∨ M = y.length) ∧ M ≤ x.length + y.length := by
    by_cases h : x.length ≤ y.length
    · exact ⟨y.length, h, Nat.le_refl _, .inr rfl, by omega⟩
    · exact ⟨x.length, Nat.le_refl _, by omega, .inl rfl, by omega⟩
  obtain ⟨N, hN⟩ : ∃ N, N = M + (plusD 10 x y M).2 := ⟨_, rfl⟩
  have hcM := (hok M).2.2.1
  have hend : lval 10 (plusD 10 x y N).1 = lval 10 x + lval 10 y ∧ (plusD 10 x y N).2 = 0 := by
    by_cases h0 : (plusD 10 x y M).2 = 0
    · have hNM : N = M := by omega
      obtain ⟨g1, g2, g3, g4⟩ := hok M
      rw [h0, List.take_of_length_le hM1, List.take_of_length_le hM2] at g4
      rw [hNM]
      exact ⟨by omega, h0⟩
    · have hNM : N = M + 1 := by omega
      rw [hNM]
      exact plusD_end hB hx hy (by omega) (by omega)
  refine ⟨(plusD 10 x y N).1, ?_, (hok N).2.1, hend.1, by rw [(hok N).1]; omega⟩
  refine Ret.of rfl (code54 _ _) rfl rfl (fun H => by simp -implicitDefEqProofs only [↓v_lenS, SB, POp.val, AOp.val, WOp.val, Lite.bin, intBin, strBin, eqv, eqMany, eq1, AV.asBool, AV.asInt, AV.asNat, AV.asPtr, AV.asStr, resVals, ResV.val, oneOr, wants, skipped, fillAt, putAt, capOf, optNat, bnd, Nat.reduceBEq, reduceIte, Nat.reduceAdd, Nat.reduceLeDiff, Nat.reduceEqDiff, Nat.reduceSub, Nat.reduceMul, Nat.reduceDiv, SOper.again, same, sameBlk, sameCap, Nat.reduceBneDiff, s_draw2, s_pair, k_pair, asunder, SOper.into, Bool.not_false, Bool.not_true, BS]) ((Ev.ge (N + 2)).mono fun n hge H => ?_)
  simp -implicitDefEqProofs only [c54, ↓v_lenS, SB, POp.val, AOp.val, WOp.val, Lite.bin, intBin, strBin, eqv, eqMany, eq1, AV.asBool, AV.asInt, AV.asNat, AV.asPtr, AV.asStr, resVals, ResV.val, oneOr, wants, skipped, fillAt, putAt, capOf, optNat, bnd, Nat.reduceBEq, reduceIte, Nat.reduceAdd, Nat.reduceLeDiff, Nat.reduceEqDiff, Nat.reduceSub, Nat.reduceMul, Nat.reduceDiv, SOper.again, same, sameBlk, sameCap, Nat.reduceBneDiff, s_draw2, s_pair, k_pair, asunder, SOper.into, Bool.not_false, Bool.not_true, BS]
  refine loop_rounds N (fun i fr H => fr 0 = vN f x ∧ fr 1 = vN g y ∧ fr 7 = .int .i64 i ∧ fr 6 = .int .i64 ((plusD 10 x y i).2 : Nat) ∧ HLow H ∧ Acc 0 H 3 1 i ((plusD 10 x y i).1.flatMap nat1) (fr 5)) ?_ ?_ n 0 _ _ (by omega) (by omega) ?_
  · rintro i fr H K' hi ⟨h0, h1, h7, h6, low, acc⟩ hKe hKr hK
    obtain ⟨p1, p2, p3, p4⟩ := hok i
    have a1 := atN_lt (by omega) hx i
    have a2 := atN_lt (by omega) hy i
    have hw := wrap_succ (i := i) (n := N) hi (by omega)
    have hnx : plusD 10 x y (i + 1) = ((plusD 10 x y i).1 ++ [(atN x i + atN y i + (plusD 10 x y i).2) % 10], (atN x i + atN y i + (plusD 10 x y i).2) / 10) := rfl
    rw [hnx] at hK
    have hcase : i < x.length ∨ i < y.length ∨ 0 < (plusD 10 x y i).2 := by
      by_cases q1 : i < x.length
      · exact .inl q1
      · by_cases q2 : i < y.length
        · exact .inr (.inl q2)
        · have : i = M := by omega
          subst this
          exact .inr (.inr (by omega))
    generalize (plusD 10 x y i).2 = c at *
    generalize (plusD 10 x y i).1 = out at *
    have w5 : ((10 : Int) == 0) = false := rfl
    have w6 : ¬ (10 : Int) = 0 := by omega
    have w1 : IntKind.i64.wrap ((c : Int) + (atN x i : Int)) = ((c + atN x i : Nat) : Int) := by rw [wrap64 (by omega) (by omega)]; rfl
    have w2 : IntKind.i64.wrap (((c + atN x i : Nat) : Int) + (atN y i : Int)) = ((c + atN x i + atN y i : Nat) : Int) := by rw [wrap64 (by omega) (by omega)]; rfl
    have w2' : IntKind.i64.wrap ((c : Int) + (atN y i : Int)) = ((c + atN y i : Nat) : Int) := by rw [wrap64 (by omega) (by omega)]; rfl
    have key : ∀ d : Nat, d ≤ 19 → IntKind.i64.wrap ((d : Int).tdiv 10) = ((d / 10 : Nat) : Int) ∧ (d : Int).tmod 10 = ((d % 10 : Nat) : Int) := fun d hd => ⟨quo_nat (a := d) (b := 10) (by omega) (by omega), rem_nat d 10⟩
    by_cases q1 : i < x.length
    · have hl1 : (i : Int) < (x.length : Int) := by omega
      have ha := iaddr_vN (f := f) (atN_at q1)
      by_cases q2 : i < y.length
      · have hl2 : (i : Int) < (y.length : Int) := by omega
        have hb := iaddr_vN (f := g) (atN_at q2)
        rw [show atN x i + atN y i + c = c + atN x i + atN y i by omega] at hK
        obtain ⟨w3, w4⟩ := key (c + atN x i + atN y i) (by omega)
        generalize c + atN x i + atN y i = d at *
        obtain ⟨H7, happ, acc7, low7, hn7, car7⟩ := nat_more acc low (Nat.zero_le _) (d % 10) (by omega) p1
        generalize hv : fr 5 = v at *
        simp -implicitDefEqProofs only [c54_l0, ↓v_lenS, SB, POp.val, AOp.val, WOp.val, Lite.bin, intBin, strBin, eqv, eqMany, eq1, AV.asBool, AV.asInt, AV.asNat, AV.asPtr, AV.asStr, resVals, ResV.val, oneOr, wants, skipped, fillAt, putAt, capOf, optNat, bnd, Nat.reduceBEq, reduceIte, Nat.reduceAdd, Nat.reduceLeDiff, Nat.reduceEqDiff, Nat.reduceSub, Nat.reduceMul, Nat.reduceDiv, SOper.again, same, sameBlk, sameCap, Nat.reduceBneDiff, s_draw2, s_pair, k_pair, asunder, SOper.into, Bool.not_false, Bool.not_true, CL, BS, h0, h1, h7, h6, hv, hl1, hl2, hw, ha, hb, w1, w2, w3, w4, w5, w6, acc.flat, happ]
        refine hK _ _ ⟨?_, ?_, ?_, ?_, low7, ?_⟩
        all_goals simp -implicitDefEqProofs only [↓v_lenS, SB, POp.val, AOp.val, WOp.val, Lite.bin, intBin, strBin, eqv, eqMany, eq1, AV.asBool, AV.asInt, AV.asNat, AV.asPtr, AV.asStr, resVals, ResV.val, oneOr, wants, skipped, fillAt, putAt, capOf, optNat, bnd, Nat.reduceBEq, reduceIte, Nat.reduceAdd, Nat.reduceLeDiff, Nat.reduceEqDiff, Nat.reduceSub, Nat.reduceMul, Nat.reduceDiv, SOper.again, same, sameBlk, sameCap, Nat.reduceBneDiff, s_draw2, s_pair, k_pair, asunder, SOper.into, Bool.not_false, Bool.not_true, h0, h1]
        exact acc7
      · have hl2 : ¬ (i : Int) < (y.length : Int) := by omega
        rw [atN_ge (l := y) (by omega)] at hK
        rw [show atN x i + 0 + c = c + atN x i by omega] at hK
        obtain ⟨w3, w4⟩ := key (c + atN x i) (by omega)
        generalize c + atN x i = d at *
        obtain ⟨H7, happ, acc7, low7, hn7, car7⟩ := nat_more acc low (Nat.zero_le _) (d % 10) (by omega) p1
        generalize hv : fr 5 = v at *
        simp -implicitDefEqProofs only [c54_l0, ↓v_lenS, SB, POp.val, AOp.val, WOp.val, Lite.bin, intBin, strBin, eqv, eqMany, eq1, AV.asBool, AV.asInt, AV.asNat, AV.asPtr, AV.asStr, resVals, ResV.val, oneOr, wants, skipped, fillAt, putAt, capOf, optNat, bnd, Nat.reduceBEq, reduceIte, Nat.reduceAdd, Nat.reduceLeDiff, Nat.reduceEqDiff, Nat.reduceSub, Nat.reduceMul, Nat.reduceDiv, SOper.again, same, sameBlk, sameCap, Nat.reduceBneDiff, s_draw2, s_pair, k_pair, asunder, SOper.into, Bool.not_false, Bool.not_true, CL, BS, h0, h1, h7, h6, hv, hl1, hl2, hw, ha, w1, w3, w4, w5, w6, acc.flat, happ]
        refine hK _ _ ⟨?_, ?_, ?_, ?_, low7, ?_⟩
        all_goals simp -implicitDefEqProofs only [↓v_lenS, SB, POp.val, AOp.val, WOp.val, Lite.bin, intBin, strBin, eqv, eqMany, eq1, AV.asBool, AV.asInt, AV.asNat, AV.asPtr, AV.asStr, resVals, ResV.val, oneOr, wants, skipped, fillAt, putAt, capOf, optNat, bnd, Nat.reduceBEq, reduceIte, Nat.reduceAdd, Nat.reduceLeDiff, Nat.reduceEqDiff, Nat.reduceSub, Nat.reduceMul, Nat.reduceDiv, SOper.again, same, sameBlk, sameCap, Nat.reduceBneDiff, s_draw2, s_pair, k_pair, asunder, SOper.into, Bool.not_false, Bool.not_true, h0, h1]
        exact acc7
    · have hl1 : ¬ (i : Int) < (x.length : Int) := by omega
      rw [atN_ge (l := x) (by omega)] at hK
      by_cases q2 : i < y.length
      · have hl2 : (i : Int) < (y.length : Int) := by omega
        have hb := iaddr_vN (f := g) (atN_at q2)
        rw [show 0 + atN y i + c = c + atN y i by omega] at hK
        obtain ⟨w3, w4⟩ := key (c + atN y i) (by omega)
        generalize c + atN y i = d at *
        obtain ⟨H7, happ, acc7, low7, hn7, car7⟩ := nat_more acc low (Nat.zero_le _) (d % 10) (by omega) p1
        generalize hv : fr 5 = v at *
        simp -implicitDefEqProofs only [c54_l0, ↓v_lenS, SB, POp.val, AOp.val, WOp.val, Lite.bin, intBin, strBin, eqv, eqMany, eq1, AV.asBool, AV.asInt, AV.asNat, AV.asPtr, AV.asStr, resVals, ResV.val, oneOr, wants, skipped, fillAt, putAt, capOf, optNat, bnd, Nat.reduceBEq, reduceIte, Nat.reduceAdd, Nat.reduceLeDiff, Nat.reduceEqDiff, Nat.reduceSub, Nat.reduceMul, Nat.reduceDiv, SOper.again, same, sameBlk, sameCap, Nat.reduceBneDiff, s_draw2, s_pair, k_pair, asunder, SOper.into, Bool.not_false, Bool.not_true, CL, BS, h0, h1, h7, h6, hv, hl1, hl2, hw, hb, w2', w3, w4, w5, w6, acc.flat, happ]
        refine hK _ _ ⟨?_, ?_, ?_, ?_, low7, ?_⟩
        all_goals simp -implicitDefEqProofs only [↓v_lenS, SB, POp.val, AOp.val, WOp.val, Lite.bin, intBin, strBin, eqv, eqMany, eq1, AV.asBool, AV.asInt, AV.asNat, AV.asPtr, AV.asStr, resVals, ResV.val, oneOr, wants, skipped, fillAt, putAt, capOf, optNat, bnd, Nat.reduceBEq, reduceIte, Nat.reduceAdd, Nat.reduceLeDiff, Nat.reduceEqDiff, Nat.reduceSub, Nat.reduceMul, Nat.reduceDiv, SOper.again, same, sameBlk, sameCap, Nat.reduceBneDiff, s_draw2, s_pair, k_pair, asunder, SOper.into, Bool.not_false, Bool.not_true, h0, h1]
        exact acc7
      · have hl2 : ¬ (i : Int) < (y.length : Int) := by omega
        have hgt : (c : Int) > 0 := by omega
        rw [atN_ge (l := y) (by omega)] at hK
        rw [show 0 + 0 + c = c by omega] at hK
        obtain ⟨w3, w4⟩ := key c (by omega)
        obtain ⟨H7, happ, acc7, low7, hn7, car7⟩ := nat_more acc low (Nat.zero_le _) (c % 10) (by omega) p1
        generalize hv : fr 5 = v at *
        simp -implicitDefEqProofs only [c54_l0, ↓v_lenS, SB, POp.val, AOp.val, WOp.val, Lite.bin, intBin, strBin, eqv, eqMany, eq1, AV.asBool, AV.asInt, AV.asNat, AV.asPtr, AV.asStr, resVals, ResV.val, oneOr, wants, skipped, fillAt, putAt, capOf, optNat, bnd, Nat.reduceBEq, reduceIte, Nat.reduceAdd, Nat.reduceLeDiff, Nat.reduceEqDiff, Nat.reduceSub, Nat.reduceMul, Nat.reduceDiv, SOper.again, same, sameBlk, sameCap, Nat.reduceBneDiff, s_draw2, s_pair, k_pair, asunder, SOper.into, Bool.not_false, Bool.not_true, CL, BS, h0, h1, h7, h6, hv, hl1, hl2, hgt, hw, w3, w4, w5, w6, acc.flat, happ]
        refine hK _ _ ⟨?_, ?_, ?_, ?_, low7, ?_⟩
        all_goals simp -implicitDefEqProofs only [↓v_lenS, SB, POp.val, AOp.val, WOp.val, Lite.bin, intBin, strBin, eqv, eqMany, eq1, AV.asBool, AV.asInt, AV.asNat, AV.asPtr, AV.asStr, resVals, ResV.val, oneOr, wants, skipped, fillAt, putAt, capOf, optNat, bnd, Nat.reduceBEq, reduceIte, Nat.reduceAdd, Nat.reduceLeDiff, Nat.reduceEqDiff, Nat.reduceSub, Nat.reduceMul, Nat.reduceDiv, SOper.again, same, sameBlk, sameCap, Nat.reduceBneDiff, s_draw2, s_pair, k_pair, asunder, SOper.into, Bool.not_false, Bool.not_true, h0, h1]
        exact acc7
  · rintro fr H K' ⟨h0, h1, h7, h6, low, acc⟩ hKe hKr
    obtain ⟨H', hs, kp⟩ := acc.shutV (by decide) (nats_still _)
    have hs' : shutV (fr 5) H = some (vN true (plusD 10 x y N).1, H') := by
      rw [hs]; show some (AV.L true 1 _ N, H') = some (AV.L true 1 _ (plusD 10 x y N).1.length, H'); rw [(hok _).1]
    rw [hend.2] at h6
    have hl1 : ¬ (N : Int) < (x.length : Int) := by omega
    have hl2 : ¬ (N : Int) < (y.length : Int) := by omega
    have hgt : ¬ ((0 : Nat) : Int) > 0 := by omega
    simp -implicitDefEqProofs only [c54_l0, ↓v_lenS, SB, POp.val, AOp.val, WOp.val, Lite.bin, intBin, strBin, eqv, eqMany, eq1, AV.asBool, AV.asInt, AV.asNat, AV.asPtr, AV.asStr, resVals, ResV.val, oneOr, wants, skipped, fillAt, putAt, capOf, optNat, bnd, Nat.reduceBEq, reduceIte, Nat.reduceAdd, Nat.reduceLeDiff, Nat.reduceEqDiff, Nat.reduceSub, Nat.reduceMul, Nat.reduceDiv, SOper.again, same, sameBlk, sameCap, Nat.reduceBneDiff, s_draw2, s_pair, k_pair, asunder, SOper.into, Bool.not_false, Bool.not_true, CL, BS, h0, h1, h7, h6, hl1, hl2, hgt, hKe, k_blockE, hs', Ends, gives_ret]
    exact ⟨_, rfl⟩
  · refine ⟨?_, ?_, ?_, ?_, HLow.bare, ?_⟩
    all_goals simp -implicitDefEqProofs only [↓v_lenS, SB, POp.val, AOp.val, WOp.val, Lite.bin, intBin, strBin, eqv, eqMany, eq1, AV.asBool, AV.asInt, AV.asNat, AV.asPtr, AV.asStr, resVals, ResV.val, oneOr, wants, skipped, fillAt, putAt, capOf, optNat, bnd, Nat.reduceBEq, reduceIte, Nat.reduceAdd, Nat.reduceLeDiff, Nat.reduceEqDiff, Nat.reduceSub, Nat.reduceMul, Nat.reduceDiv, SOper.again, same, sameBlk, sameCap, Nat.reduceBneDiff, s_draw2, s_pair, k_pair, asunder, SOper.into, Bool.not_false, Bool.not_true]
    · rfl
    · rfl
    · exact Acc.nil

theorem tf_len {f : Bool} {l m : List Nat} (h : l.length = m.length) : tf f l = tf f m := by
  unfold tf
  cases l <;> cases m <;> simp at h ⊢

theorem less45 (f g : Bool) (x y : List Nat) (hx : Under 10 x) (hy : Under 10 y) (hlx : x.length ≤ 900000) (hly : y.length ≤ x.length) (hle : lval 10 y ≤ lval 10 x) : Ret P4 45 [vN f x, vN g y] (vN (tf true x) (limbs 10 (lval 10 x - lval 10 y))) := by
  have hB : 2 ≤ 10 := by omega
  have hok := lessD_ok hB hx hy
  have hend := lessD_end hB hx hy hly hle
  have hres : trimL (lessD 10 x y x.length).1 = limbs 10 (lval 10 x - lval 10 y) := by rw [← hend, limbs_trim hB (hok _).2.1]
  rw [← hres, tf_len (hok x.length).1.symm]
  refine Ret.of rfl (code45 _ _) rfl rfl (fun H => by simp -implicitDefEqProofs only [↓v_lenS, SB, POp.val, AOp.val, WOp.val, Lite.bin, intBin, strBin, eqv, eqMany, eq1, AV.asBool, AV.asInt, AV.asNat, AV.asPtr, AV.asStr, resVals, ResV.val, oneOr, wants, skipped, fillAt, putAt, capOf, optNat, bnd, Nat.reduceBEq, reduceIte, Nat.reduceAdd, Nat.reduceLeDiff, Nat.reduceEqDiff, Nat.reduceSub, Nat.reduceMul, Nat.reduceDiv, SOper.again, same, sameBlk, sameCap, Nat.reduceBneDiff, s_draw2, s_pair, k_pair, asunder, SOper.into, Bool.not_false, Bool.not_true, BS]) ?_
  refine ((trim43 true (lessD 10 x y x.length).1 (by rw [(hok _).1]; omega)).and (Ev.ge (x.length + 2))).mono fun n e H => ?_
  obtain ⟨e1, hge⟩ := e
  simp -implicitDefEqProofs only [c45, ↓v_lenS, SB, POp.val, AOp.val, WOp.val, Lite.bin, intBin, strBin, eqv, eqMany, eq1, AV.asBool, AV.asInt, AV.asNat, AV.asPtr, AV.asStr, resVals, ResV.val, oneOr, wants, skipped, fillAt, putAt, capOf, optNat, bnd, Nat.reduceBEq, reduceIte, Nat.reduceAdd, Nat.reduceLeDiff, Nat.reduceEqDiff, Nat.reduceSub, Nat.reduceMul, Nat.reduceDiv, SOper.again, same, sameBlk, sameCap, Nat.reduceBneDiff, s_draw2, s_pair, k_pair, asunder, SOper.into, Bool.not_false, Bool.not_true, BS]
  refine loop_rounds x.length (fun i fr H => fr 0 = vN f x ∧ fr 1 = vN g y ∧ fr 7 = .int .i64 i ∧ fr 6 = .int .i64 ((lessD 10 x y i).2 : Nat) ∧ HLow H ∧ Acc 0 H 3 1 i ((lessD 10 x y i).1.flatMap nat1) (fr 5)) ?_ ?_ n 0 _ _ (by omega) (by omega) ?_
  · rintro i fr H K' hi ⟨h0, h1, h7, h6, low, acc⟩ hKe hKr hK
    obtain ⟨p1, p2, p3, p4⟩ := hok i
    have a1 := atN_lt (by omega) hx i
    have a2 := atN_lt (by omega) hy i
    have hlt : (i : Int) < (x.length : Int) := by omega
    have hw := wrap_succ (i := i) (n := x.length) hi (by omega)
    have ha := iaddr_vN (f := f) (atN_at hi)
    have hnx : lessD 10 x y (i + 1) = ((lessD 10 x y i).1 ++ [lessE 10 (atN x i) (atN y i) (lessD 10 x y i).2], lessB (atN x i) (atN y i) (lessD 10 x y i).2) := rfl
    rw [hnx] at hK
    generalize (lessD 10 x y i).2 = c at *
    generalize (lessD 10 x y i).1 = out at *
    generalize atN x i = a at *
    have w1 : IntKind.i64.wrap ((a : Int) - (c : Int)) = (a : Int) - c := wrap64 (by omega) (by omega)
    have step : ∀ b : Nat, b = atN y i → b < 10 →
        (∀ z : Int, z = (a : Int) - c - b → IntKind.i64.wrap z = z) := fun b hb hb2 z hz => wrap64 (by omega) (by omega)
    by_cases q2 : i < y.length
    · have hl2 : (i : Int) < (y.length : Int) := by omega
      have hb' := iaddr_vN (f := g) (atN_at q2)
      generalize atN y i = b at *
      have w2 : IntKind.i64.wrap ((a : Int) - (c : Int) - (b : Int)) = (a : Int) - c - b := wrap64 (by omega) (by omega)
      obtain ⟨H7, happ, acc7, low7, hn7, car7⟩ := nat_more acc low (Nat.zero_le _) (lessE 10 a b c) (by omega) p1
      generalize hv : fr 5 = v at *
      by_cases hb : b + c ≤ a
      · have hn : ¬ (a : Int) - c - b < 0 := by omega
        have hE : (a : Int) - c - b = ((lessE 10 a b c : Nat) : Int) := by unfold lessE; rw [if_pos hb]; omega
        have hB' : lessB a b c = 0 := by unfold lessB; rw [if_pos hb]
        rw [hB'] at hK
        replace w2 := w2.trans hE
        rw [hE] at hn
        simp -implicitDefEqProofs only [c45_l0, ↓v_lenS, SB, POp.val, AOp.val, WOp.val, Lite.bin, intBin, strBin, eqv, eqMany, eq1, AV.asBool, AV.asInt, AV.asNat, AV.asPtr, AV.asStr, resVals, ResV.val, oneOr, wants, skipped, fillAt, putAt, capOf, optNat, bnd, Nat.reduceBEq, reduceIte, Nat.reduceAdd, Nat.reduceLeDiff, Nat.reduceEqDiff, Nat.reduceSub, Nat.reduceMul, Nat.reduceDiv, SOper.again, same, sameBlk, sameCap, Nat.reduceBneDiff, s_draw2, s_pair, k_pair, asunder, SOper.into, Bool.not_false, Bool.not_true, CL, BS, h0, h1, h7, h6, hv, hlt, hl2, hw, ha, hb', w1, w2, hn, acc.flat, happ]
        refine hK _ _ ⟨?_, ?_, ?_, ?_, low7, ?_⟩
        all_goals simp -implicitDefEqProofs only [↓v_lenS, SB, POp.val, AOp.val, WOp.val, Lite.bin, intBin, strBin, eqv, eqMany, eq1, AV.asBool, AV.asInt, AV.asNat, AV.asPtr, AV.asStr, resVals, ResV.val, oneOr, wants, skipped, fillAt, putAt, capOf, optNat, bnd, Nat.reduceBEq, reduceIte, Nat.reduceAdd, Nat.reduceLeDiff, Nat.reduceEqDiff, Nat.reduceSub, Nat.reduceMul, Nat.reduceDiv, SOper.again, same, sameBlk, sameCap, Nat.reduceBneDiff, s_draw2, s_pair, k_pair, asunder, SOper.into, Bool.not_false, Bool.not_true, h0, h1]
        · rfl
        · exact acc7
      · have hn : (a : Int) - c - b < 0 := by omega
        have hE : IntKind.i64.wrap ((a : Int) - c - b + 10) = ((lessE 10 a b c : Nat) : Int) := by
          unfold lessE; rw [if_neg hb, wrap64 (by omega) (by omega)]; omega
        have hB' : lessB a b c = 1 := by unfold lessB; rw [if_neg hb]
        rw [hB'] at hK
        simp -implicitDefEqProofs only [c45_l0, ↓v_lenS, SB, POp.val, AOp.val, WOp.val, Lite.bin, intBin, strBin, eqv, eqMany, eq1, AV.asBool, AV.asInt, AV.asNat, AV.asPtr, AV.asStr, resVals, ResV.val, oneOr, wants, skipped, fillAt, putAt, capOf, optNat, bnd, Nat.reduceBEq, reduceIte, Nat.reduceAdd, Nat.reduceLeDiff, Nat.reduceEqDiff, Nat.reduceSub, Nat.reduceMul, Nat.reduceDiv, SOper.again, same, sameBlk, sameCap, Nat.reduceBneDiff, s_draw2, s_pair, k_pair, asunder, SOper.into, Bool.not_false, Bool.not_true, CL, BS, h0, h1, h7, h6, hv, hlt, hl2, hw, ha, hb', w1, w2, hn, hE, acc.flat, happ]
        refine hK _ _ ⟨?_, ?_, ?_, ?_, low7, ?_⟩
        all_goals simp -implicitDefEqProofs only [↓v_lenS, SB, POp.val, AOp.val, WOp.val, Lite.bin, intBin, strBin, eqv, eqMany, eq1, AV.asBool, AV.asInt, AV.asNat, AV.asPtr, AV.asStr, resVals, ResV.val, oneOr, wants, skipped, fillAt, putAt, capOf, optNat, bnd, Nat.reduceBEq, reduceIte, Nat.reduceAdd, Nat.reduceLeDiff, Nat.reduceEqDiff, Nat.reduceSub, Nat.reduceMul, Nat.reduceDiv, SOper.again, same, sameBlk, sameCap, Nat.reduceBneDiff, s_draw2, s_pair, k_pair, asunder, SOper.into, Bool.not_false, Bool.not_true, h0, h1]
        · rfl
        · exact acc7
    · have hl2 : ¬ (i : Int) < (y.length : Int) := by omega
      rw [atN_ge (l := y) (by omega)] at hK
      obtain ⟨H7, happ, acc7, low7, hn7, car7⟩ := nat_more acc low (Nat.zero_le _) (lessE 10 a 0 c) (by omega) p1
      generalize hv : fr 5 = v at *
      by_cases hb : 0 + c ≤ a
      · have hn : ¬ (a : Int) - c < 0 := by omega
        have hE : (a : Int) - c = ((lessE 10 a 0 c : Nat) : Int) := by unfold lessE; rw [if_pos hb]; omega
        have hB' : lessB a 0 c = 0 := by unfold lessB; rw [if_pos hb]
        rw [hB'] at hK
        replace w1 := w1.trans hE
        rw [hE] at hn
        simp -implicitDefEqProofs only [c45_l0, ↓v_lenS, SB, POp.val, AOp.val, WOp.val, Lite.bin, intBin, strBin, eqv, eqMany, eq1, AV.asBool, AV.asInt, AV.asNat, AV.asPtr, AV.asStr, resVals, ResV.val, oneOr, wants, skipped, fillAt, putAt, capOf, optNat, bnd, Nat.reduceBEq, reduceIte, Nat.reduceAdd, Nat.reduceLeDiff, Nat.reduceEqDiff, Nat.reduceSub, Nat.reduceMul, Nat.reduceDiv, SOper.again, same, sameBlk, sameCap, Nat.reduceBneDiff, s_draw2, s_pair, k_pair, asunder, SOper.into, Bool.not_false, Bool.not_true, CL, BS, h0, h1, h7, h6, hv, hlt, hl2, hw, ha, w1, hn, acc.flat, happ]
        refine hK _ _ ⟨?_, ?_, ?_, ?_, low7, ?_⟩
        all_goals simp -implicitDefEqProofs only [↓v_lenS, SB, POp.val, AOp.val, WOp.val, Lite.bin, intBin, strBin, eqv, eqMany, eq1, AV.asBool, AV.asInt, AV.asNat, AV.asPtr, AV.asStr, resVals, ResV.val, oneOr, wants, skipped, fillAt, putAt, capOf, optNat, bnd, Nat.reduceBEq, reduceIte, Nat.reduceAdd, Nat.reduceLeDiff, Nat.reduceEqDiff, Nat.reduceSub, Nat.reduceMul, Nat.reduceDiv, SOper.again, same, sameBlk, sameCap, Nat.reduceBneDiff, s_draw2, s_pair, k_pair, asunder, SOper.into, Bool.not_false, Bool.not_true, h0, h1]
        · rfl
        · exact acc7
      · have hn : (a : Int) - c < 0 := by omega
        have hE : IntKind.i64.wrap ((a : Int) - c + 10) = ((lessE 10 a 0 c : Nat) : Int) := by
          unfold lessE; rw [if_neg hb, wrap64 (by omega) (by omega)]; omega
        have hB' : lessB a 0 c = 1 := by unfold lessB; rw [if_neg hb]
        rw [hB'] at hK
        simp -implicitDefEqProofs only [c45_l0, ↓v_lenS, SB, POp.val, AOp.val, WOp.val, Lite.bin, intBin, strBin, eqv, eqMany, eq1, AV.asBool, AV.asInt, AV.asNat, AV.asPtr, AV.asStr, resVals, ResV.val, oneOr, wants, skipped, fillAt, putAt, capOf, optNat, bnd, Nat.reduceBEq, reduceIte, Nat.reduceAdd, Nat.reduceLeDiff, Nat.reduceEqDiff, Nat.reduceSub, Nat.reduceMul, Nat.reduceDiv, SOper.again, same, sameBlk, sameCap, Nat.reduceBneDiff, s_draw2, s_pair, k_pair, asunder, SOper.into, Bool.not_false, Bool.not_true, CL, BS, h0, h1, h7, h6, hv, hlt, hl2, hw, ha, w1, hn, hE, acc.flat, happ]
        refine hK _ _ ⟨?_, ?_, ?_, ?_, low7, ?_⟩
        all_goals simp -implicitDefEqProofs only [↓v_lenS, SB, POp.val, AOp.val, WOp.val, Lite.bin, intBin, strBin, eqv, eqMany, eq1, AV.asBool, AV.asInt, AV.asNat, AV.asPtr, AV.asStr, resVals, ResV.val, oneOr, wants, skipped, fillAt, putAt, capOf, optNat, bnd, Nat.reduceBEq, reduceIte, Nat.reduceAdd, Nat.reduceLeDiff, Nat.reduceEqDiff, Nat.reduceSub, Nat.reduceMul, Nat.reduceDiv, SOper.again, same, sameBlk, sameCap, Nat.reduceBneDiff, s_draw2, s_pair, k_pair, asunder, SOper.into, Bool.not_false, Bool.not_true, h0, h1]
        · rfl
        · exact acc7
  · rintro fr H K' ⟨h0, h1, h7, h6, low, acc⟩ hKe hKr
    obtain ⟨H', hs, kp⟩ := acc.shutV (by decide) (nats_still _)
    have hs' : shutV (fr 5) H = some (vN true (lessD 10 x y x.length).1, H') := by
      rw [hs]; show some (AV.L true 1 _ x.length, H') = some (AV.L true 1 _ (lessD 10 x y x.length).1.length, H'); rw [(hok _).1]
    simp -implicitDefEqProofs only [c45_l0, ↓v_lenS, SB, POp.val, AOp.val, WOp.val, Lite.bin, intBin, strBin, eqv, eqMany, eq1, AV.asBool, AV.asInt, AV.asNat, AV.asPtr, AV.asStr, resVals, ResV.val, oneOr, wants, skipped, fillAt, putAt, capOf, optNat, bnd, Nat.reduceBEq, reduceIte, Nat.reduceAdd, Nat.reduceLeDiff, Nat.reduceEqDiff, Nat.reduceSub, Nat.reduceMul, Nat.reduceDiv, SOper.again, same, sameBlk, sameCap, Nat.reduceBneDiff, s_draw2, s_pair, k_pair, asunder, SOper.into, Bool.not_false, Bool.not_true, CL, BS, h0, h1, h7, Int.lt_irrefl, hKe, k_blockE, hs', e1, gives_ret]
    exact ⟨_, rfl⟩
  · refine ⟨?_, ?_, ?_, ?_, HLow.bare, ?_⟩
    all_goals simp -implicitDefEqProofs only [↓v_lenS, SB, POp.val, AOp.val, WOp.val, Lite.bin, intBin, strBin, eqv, eqMany, eq1, AV.asBool, AV.asInt, AV.asNat, AV.asPtr, AV.asStr, resVals, ResV.val, oneOr, wants, skipped, fillAt, putAt, capOf, optNat, bnd, Nat.reduceBEq, reduceIte, Nat.reduceAdd, Nat.reduceLeDiff, Nat.reduceEqDiff, Nat.reduceSub, Nat.reduceMul, Nat.reduceDiv, SOper.again, same, sameBlk, sameCap, Nat.reduceBneDiff, s_draw2, s_pair, k_pair, asunder, SOper.into, Bool.not_false, Bool.not_true]
    · rfl
    · rfl
    · exact Acc.nil

theorem cmp44 (f g : Bool) (x y : List Nat) (hx : Under 10 x) (hy : Under 10 y) (lx : Last x) (ly : Last y) (hlx : x.length ≤ 900000) (hly : y.length ≤ 900000) : Ret P4 44 [vN f x, vN g y] (.int .i64 (cmpN (lval 10 x) (lval 10 y))) := by
  have hB : 2 ≤ 10 := by omega
  refine Ret.of rfl (code44 _ _) rfl rfl (fun H => by simp -implicitDefEqProofs only [↓v_lenS, SB, POp.val, AOp.val, WOp.val, Lite.bin, intBin, strBin, eqv, eqMany, eq1, AV.asBool, AV.asInt, AV.asNat, AV.asPtr, AV.asStr, resVals, ResV.val, oneOr, wants, skipped, fillAt, putAt, capOf, optNat, bnd, Nat.reduceBEq, reduceIte, Nat.reduceAdd, Nat.reduceLeDiff, Nat.reduceEqDiff, Nat.reduceSub, Nat.reduceMul, Nat.reduceDiv, SOper.again, same, sameBlk, sameCap, Nat.reduceBneDiff, s_draw2, s_pair, k_pair, asunder, SOper.into, Bool.not_false, Bool.not_true, BS]) ?_
  refine ((sign55 ((x.length : Int) - y.length)).and ((Ev.all (List.range x.length) fun i _ => sign55 ((atN x i : Int) - atN y i)).and (Ev.ge (x.length + 2)))).mono fun n e H => ?_
  obtain ⟨e1, e2, hge⟩ := e
  by_cases hl : x.length = y.length
  · have hne : ((x.length : Int) != (y.length : Int)) = false := by rw [hl]; simp
    simp -implicitDefEqProofs only [c44, ↓v_lenS, SB, POp.val, AOp.val, WOp.val, Lite.bin, intBin, strBin, eqv, eqMany, eq1, AV.asBool, AV.asInt, AV.asNat, AV.asPtr, AV.asStr, resVals, ResV.val, oneOr, wants, skipped, fillAt, putAt, capOf, optNat, bnd, Nat.reduceBEq, reduceIte, Nat.reduceAdd, Nat.reduceLeDiff, Nat.reduceEqDiff, Nat.reduceSub, Nat.reduceMul, Nat.reduceDiv, SOper.again, same, sameBlk, sameCap, Nat.reduceBneDiff, s_draw2, s_pair, k_pair, asunder, SOper.into, Bool.not_false, Bool.not_true, BS, hne]
    refine loop_rounds x.length (fun i fr H => fr 0 = vN f x ∧ fr 1 = vN g y ∧ fr 5 = .int .i64 (x.length - i : Nat) ∧ x.drop (x.length - i) = y.drop (x.length - i)) ?_ ?_ n 0 _ _ (by omega) (by omega) ?_
    · rintro i fr H K' hi ⟨h0, h1, h5, hd⟩ hKe hKr hK
      obtain ⟨j, hj⟩ : ∃ j, j = x.length - (i + 1) := ⟨_, rfl⟩
      rw [show x.length - i = j + 1 by omega] at h5 hd
      rw [← hj] at hK
      have hgt : ((j + 1 : Nat) : Int) > 0 := by omega
      have hw : IntKind.i64.wrap (((j + 1 : Nat) : Int) - 1) = (j : Int) := by rw [wrap64 (by omega) (by omega)]; omega
      have ha := iaddr_vN (f := f) (atN_at (l := x) (i := j) (by omega))
      have hb := iaddr_vN (f := g) (atN_at (l := y) (i := j) (by omega))
      have e3 := e2 j (List.mem_range.2 (by omega))
      have a1 := atN_lt (by omega) hx j
      have a2 := atN_lt (by omega) hy j
      have w1 : IntKind.i64.wrap ((atN x j : Int) - atN y j) = (atN x j : Int) - atN y j := wrap64 (by omega) (by omega)
      by_cases hq : atN x j = atN y j
      · have hE : ((atN x j : Int) != (atN y j : Int)) = false := by rw [hq]; simp
        simp -implicitDefEqProofs only [c44_l0, ↓v_lenS, SB, POp.val, AOp.val, WOp.val, Lite.bin, intBin, strBin, eqv, eqMany, eq1, AV.asBool, AV.asInt, AV.asNat, AV.asPtr, AV.asStr, resVals, ResV.val, oneOr, wants, skipped, fillAt, putAt, capOf, optNat, bnd, Nat.reduceBEq, reduceIte, Nat.reduceAdd, Nat.reduceLeDiff, Nat.reduceEqDiff, Nat.reduceSub, Nat.reduceMul, Nat.reduceDiv, SOper.again, same, sameBlk, sameCap, Nat.reduceBneDiff, s_draw2, s_pair, k_pair, asunder, SOper.into, Bool.not_false, Bool.not_true, CL, BS, h0, h1, h5, hgt, ha, hb, hE, hw]
        refine hK _ _ ⟨?_, ?_, ?_, ?_⟩
        any_goals simp -implicitDefEqProofs only [↓v_lenS, SB, POp.val, AOp.val, WOp.val, Lite.bin, intBin, strBin, eqv, eqMany, eq1, AV.asBool, AV.asInt, AV.asNat, AV.asPtr, AV.asStr, resVals, ResV.val, oneOr, wants, skipped, fillAt, putAt, capOf, optNat, bnd, Nat.reduceBEq, reduceIte, Nat.reduceAdd, Nat.reduceLeDiff, Nat.reduceEqDiff, Nat.reduceSub, Nat.reduceMul, Nat.reduceDiv, SOper.again, same, sameBlk, sameCap, Nat.reduceBneDiff, s_draw2, s_pair, k_pair, asunder, SOper.into, Bool.not_false, Bool.not_true, h0, h1]
        exact drop_atN hl (by omega) hd hq
      · have hE : ((atN x j : Int) != (atN y j : Int)) = true := by simp; omega
        have hc : cmpN (lval 10 x) (lval 10 y) = sgn ((atN x j : Int) - atN y j) := by
          rcases Nat.lt_or_ge (atN x j) (atN y j) with h | h
          · have := cmp_at hB hx (by omega) (by omega) hd h
            rw [sgn_neg (by omega), cmpN, if_pos this]
          · have := cmp_at hB hy (by omega) (by omega) hd.symm (by omega)
            rw [sgn_pos (by omega), cmpN, if_neg (by omega), if_pos this]
        rw [hc]
        simp -implicitDefEqProofs only [c44_l0, ↓v_lenS, SB, POp.val, AOp.val, WOp.val, Lite.bin, intBin, strBin, eqv, eqMany, eq1, AV.asBool, AV.asInt, AV.asNat, AV.asPtr, AV.asStr, resVals, ResV.val, oneOr, wants, skipped, fillAt, putAt, capOf, optNat, bnd, Nat.reduceBEq, reduceIte, Nat.reduceAdd, Nat.reduceLeDiff, Nat.reduceEqDiff, Nat.reduceSub, Nat.reduceMul, Nat.reduceDiv, SOper.again, same, sameBlk, sameCap, Nat.reduceBneDiff, s_draw2, s_pair, k_pair, asunder, SOper.into, Bool.not_false, Bool.not_true, CL, BS, h0, h1, h5, hgt, ha, hb, hE, hw, w1, e3, hKr, gives_ret]
        exact ⟨_, rfl⟩
    · rintro fr H K' ⟨h0, h1, h5, hd⟩ hKe hKr
      rw [Nat.sub_self, List.drop_zero, List.drop_zero] at hd
      rw [Nat.sub_self] at h5
      subst hd
      have hc : cmpN (lval 10 x) (lval 10 x) = 0 := by simp [cmpN]
      have hgt : ¬ ((0 : Nat) : Int) > 0 := by omega
      rw [hc]
      simp -implicitDefEqProofs only [c44_l0, ↓v_lenS, SB, POp.val, AOp.val, WOp.val, Lite.bin, intBin, strBin, eqv, eqMany, eq1, AV.asBool, AV.asInt, AV.asNat, AV.asPtr, AV.asStr, resVals, ResV.val, oneOr, wants, skipped, fillAt, putAt, capOf, optNat, bnd, Nat.reduceBEq, reduceIte, Nat.reduceAdd, Nat.reduceLeDiff, Nat.reduceEqDiff, Nat.reduceSub, Nat.reduceMul, Nat.reduceDiv, SOper.again, same, sameBlk, sameCap, Nat.reduceBneDiff, s_draw2, s_pair, k_pair, asunder, SOper.into, Bool.not_false, Bool.not_true, CL, BS, h0, h1, h5, hgt, hKe, k_blockE, gives_ret]
      exact ⟨_, rfl⟩
    · refine ⟨?_, ?_, ?_, ?_⟩
      any_goals simp -implicitDefEqProofs only [↓v_lenS, SB, POp.val, AOp.val, WOp.val, Lite.bin, intBin, strBin, eqv, eqMany, eq1, AV.asBool, AV.asInt, AV.asNat, AV.asPtr, AV.asStr, resVals, ResV.val, oneOr, wants, skipped, fillAt, putAt, capOf, optNat, bnd, Nat.reduceBEq, reduceIte, Nat.reduceAdd, Nat.reduceLeDiff, Nat.reduceEqDiff, Nat.reduceSub, Nat.reduceMul, Nat.reduceDiv, SOper.again, same, sameBlk, sameCap, Nat.reduceBneDiff, s_draw2, s_pair, k_pair, asunder, SOper.into, Bool.not_false, Bool.not_true]
      · simp
      · simp [hl]
  · have hne : ((x.length : Int) != (y.length : Int)) = true := by simp; omega
    have hw0 : IntKind.i64.wrap ((x.length : Int) - (y.length : Int)) = (x.length : Int) - y.length := wrap64 (by omega) (by omega)
    have hc : cmpN (lval 10 x) (lval 10 y) = sgn ((x.length : Int) - y.length) := by
      rcases Nat.lt_or_ge x.length y.length with h | h
      · have := cmp_len hB hx ly h
        rw [sgn_neg (by omega), cmpN, if_pos this]
      · have := cmp_len hB hy lx (by omega)
        rw [sgn_pos (by omega), cmpN, if_neg (by omega), if_pos this]
    rw [hc]
    simp -implicitDefEqProofs only [c44, ↓v_lenS, SB, POp.val, AOp.val, WOp.val, Lite.bin, intBin, strBin, eqv, eqMany, eq1, AV.asBool, AV.asInt, AV.asNat, AV.asPtr, AV.asStr, resVals, ResV.val, oneOr, wants, skipped, fillAt, putAt, capOf, optNat, bnd, Nat.reduceBEq, reduceIte, Nat.reduceAdd, Nat.reduceLeDiff, Nat.reduceEqDiff, Nat.reduceSub, Nat.reduceMul, Nat.reduceDiv, SOper.again, same, sameBlk, sameCap, Nat.reduceBneDiff, s_draw2, s_pair, k_pair, asunder, SOper.into, Bool.not_false, Bool.not_true, CL, BS, hne, hw0, e1, Ends, gives_ret]
    exact ⟨_, rfl⟩

theorem limbs10_mono {a b : Nat} (h : a ≤ b) : (limbs 10 a).length ≤ (limbs 10 b).length := limbs_len_le (by omega) (Nat.lt_of_le_of_lt h (limbs_lt_iff (by omega) b))

theorem sum42 (p q f g : Bool) (a b : Nat) (ha : (limbs 10 a).length ≤ 300000) (hb : (limbs 10 b).length ≤ 300000) :
    ∃ h z, Ret P4 42 [vN f (limbs 10 a), .bool p, vN g (limbs 10 b), .bool q] (.tuple [vN h z, .bool (sumS p a q b).1]) ∧ Under 10 z ∧ lval 10 z = (sumS p a q b).2 ∧ z.length ≤ 600001 := by
  have hB : 2 ≤ 10 := by omega
  have hua := limbs_below hB a
  have hub := limbs_below hB b
  have hva := lval_limbs hB a
  have hvb := lval_limbs hB b
  have k44 := cmp44 f g _ _ hua hub (limbs_last hB a) (limbs_last hB b) (by omega) (by omega)
  obtain ⟨z, k54, hz1, hz2, hz3⟩ := plus54 f g _ _ hua hub ha hb
  rw [hva, hvb] at k44 hz2
  by_cases hpq : p = q
  · have hs : sumS p a q b = (p, a + b) := by unfold sumS; rw [if_pos hpq]
    rw [hs]
    refine ⟨true, z, ?_, hz1, hz2, by omega⟩
    refine Ret.of rfl (code42 _ _) rfl rfl (fun H => by simp -implicitDefEqProofs only [↓v_lenS, SB, POp.val, AOp.val, WOp.val, Lite.bin, intBin, strBin, eqv, eqMany, eq1, AV.asBool, AV.asInt, AV.asNat, AV.asPtr, AV.asStr, resVals, ResV.val, oneOr, wants, skipped, fillAt, putAt, capOf, optNat, bnd, Nat.reduceBEq, reduceIte, Nat.reduceAdd, Nat.reduceLeDiff, Nat.reduceEqDiff, Nat.reduceSub, Nat.reduceMul, Nat.reduceDiv, SOper.again, same, sameBlk, sameCap, Nat.reduceBneDiff, s_draw2, s_pair, k_pair, asunder, SOper.into, Bool.not_false, Bool.not_true, BS]) (k54.mono fun n e1 H => ?_)
    have hbe : (p == q) = true := by rw [hpq]; simp
    generalize limbs 10 a = X at *
    generalize limbs 10 b = Y at *
    simp -implicitDefEqProofs only [c42, ↓v_lenS, SB, POp.val, AOp.val, WOp.val, Lite.bin, intBin, strBin, eqv, eqMany, eq1, AV.asBool, AV.asInt, AV.asNat, AV.asPtr, AV.asStr, resVals, ResV.val, oneOr, wants, skipped, fillAt, putAt, capOf, optNat, bnd, Nat.reduceBEq, reduceIte, Nat.reduceAdd, Nat.reduceLeDiff, Nat.reduceEqDiff, Nat.reduceSub, Nat.reduceMul, Nat.reduceDiv, SOper.again, same, sameBlk, sameCap, Nat.reduceBneDiff, s_draw2, s_pair, k_pair, asunder, SOper.into, Bool.not_false, Bool.not_true, CL, BS, hbe, e1, Ends, gives_ret]
    exact ⟨_, rfl⟩
  · have hbe : (p == q) = false := by simpa using hpq
    by_cases hl : a < b
    · have k45 := less45 g f _ _ hub hua (by omega) (limbs10_mono (by omega)) (by rw [hva, hvb]; omega)
      rw [hva, hvb] at k45
      have hs : sumS p a q b = (q, b - a) := by unfold sumS; rw [if_neg hpq, if_pos hl]
      rw [hs]
      refine ⟨tf true (limbs 10 b), limbs 10 (b - a), ?_, limbs_below hB _, lval_limbs hB _, ?_⟩
      · refine Ret.of rfl (code42 _ _) rfl rfl (fun H => by simp -implicitDefEqProofs only [↓v_lenS, SB, POp.val, AOp.val, WOp.val, Lite.bin, intBin, strBin, eqv, eqMany, eq1, AV.asBool, AV.asInt, AV.asNat, AV.asPtr, AV.asStr, resVals, ResV.val, oneOr, wants, skipped, fillAt, putAt, capOf, optNat, bnd, Nat.reduceBEq, reduceIte, Nat.reduceAdd, Nat.reduceLeDiff, Nat.reduceEqDiff, Nat.reduceSub, Nat.reduceMul, Nat.reduceDiv, SOper.again, same, sameBlk, sameCap, Nat.reduceBneDiff, s_draw2, s_pair, k_pair, asunder, SOper.into, Bool.not_false, Bool.not_true, BS]) ((k44.and k45).mono fun n e H => ?_)
        obtain ⟨e1, e2⟩ := e
        have hc : ¬ cmpN a b ≥ 0 := cmpN_lt hl
        generalize cmpN a b = cc at *
        generalize tf true (limbs 10 b) = tt at *
        generalize limbs 10 (b - a) = Z at *
        generalize limbs 10 a = X at *
        generalize limbs 10 b = Y at *
        simp -implicitDefEqProofs only [c42, ↓v_lenS, SB, POp.val, AOp.val, WOp.val, Lite.bin, intBin, strBin, eqv, eqMany, eq1, AV.asBool, AV.asInt, AV.asNat, AV.asPtr, AV.asStr, resVals, ResV.val, oneOr, wants, skipped, fillAt, putAt, capOf, optNat, bnd, Nat.reduceBEq, reduceIte, Nat.reduceAdd, Nat.reduceLeDiff, Nat.reduceEqDiff, Nat.reduceSub, Nat.reduceMul, Nat.reduceDiv, SOper.again, same, sameBlk, sameCap, Nat.reduceBneDiff, s_draw2, s_pair, k_pair, asunder, SOper.into, Bool.not_false, Bool.not_true, CL, BS, hbe, hc, e1, e2, Ends, gives_ret]
        exact ⟨_, rfl⟩
      · have := limbs10_mono (a := b - a) (b := b) (by omega)
        omega
    · have k45 := less45 f g _ _ hua hub (by omega) (limbs10_mono (by omega)) (by rw [hva, hvb]; omega)
      rw [hva, hvb] at k45
      have hs : sumS p a q b = (p, a - b) := by unfold sumS; rw [if_neg hpq, if_neg hl]
      rw [hs]
      refine ⟨tf true (limbs 10 a), limbs 10 (a - b), ?_, limbs_below hB _, lval_limbs hB _, ?_⟩
      · refine Ret.of rfl (code42 _ _) rfl rfl (fun H => by simp -implicitDefEqProofs only [↓v_lenS, SB, POp.val, AOp.val, WOp.val, Lite.bin, intBin, strBin, eqv, eqMany, eq1, AV.asBool, AV.asInt, AV.asNat, AV.asPtr, AV.asStr, resVals, ResV.val, oneOr, wants, skipped, fillAt, putAt, capOf, optNat, bnd, Nat.reduceBEq, reduceIte, Nat.reduceAdd, Nat.reduceLeDiff, Nat.reduceEqDiff, Nat.reduceSub, Nat.reduceMul, Nat.reduceDiv, SOper.again, same, sameBlk, sameCap, Nat.reduceBneDiff, s_draw2, s_pair, k_pair, asunder, SOper.into, Bool.not_false, Bool.not_true, BS]) ((k44.and k45).mono fun n e H => ?_)
        obtain ⟨e1, e2⟩ := e
        have hc : cmpN a b ≥ 0 := cmpN_ge (by omega)
        generalize cmpN a b = cc at *
        generalize tf true (limbs 10 a) = tt at *
        generalize limbs 10 (a - b) = Z at *
        generalize limbs 10 a = X at *
        generalize limbs 10 b = Y at *
        simp -implicitDefEqProofs only [c42, ↓v_lenS, SB, POp.val, AOp.val, WOp.val, Lite.bin, intBin, strBin, eqv, eqMany, eq1, AV.asBool, AV.asInt, AV.asNat, AV.asPtr, AV.asStr, resVals, ResV.val, oneOr, wants, skipped, fillAt, putAt, capOf, optNat, bnd, Nat.reduceBEq, reduceIte, Nat.reduceAdd, Nat.reduceLeDiff, Nat.reduceEqDiff, Nat.reduceSub, Nat.reduceMul, Nat.reduceDiv, SOper.again, same, sameBlk, sameCap, Nat.reduceBneDiff, s_draw2, s_pair, k_pair, asunder, SOper.into, Bool.not_false, Bool.not_true, CL, BS, hbe, hc, e1, e2, Ends, gives_ret]
        exact ⟨_, rfl⟩
      · have := limbs10_mono (a := a - b) (b := a) (by omega)
        omega

theorem add25 (x y : Int) {k : Nat} (hx : x.natAbs < 10 ^ (k + 1)) (hy : y.natAbs < 10 ^ (k + 1)) (hk : k ≤ 2000) : Ret P4 25 [.str (decZ x), .str (decZ y)] (opT (x + y)) := by
  have hB : 2 ≤ 10 := by omega
  have hl1 := limbs_len_le hB hx
  have hl2 := limbs_len_le hB hy
  obtain ⟨h, z, k42, hz1, hz2, hz3⟩ := sum42 (decide (x < 0)) (decide (y < 0)) false false x.natAbs y.natAbs (by omega) (by omega)
  have hv := sumS_val (decide (x < 0)) x.natAbs (decide (y < 0)) y.natAbs
  rw [valZ_abs, valZ_abs] at hv
  have htx := text41 h (sumS (decide (x < 0)) x.natAbs (decide (y < 0)) y.natAbs).1 z hz1 (by omega)
  rw [hz2, hv] at htx
  refine Ret.of rfl (code25 _ _) rfl rfl (fun H => by simp -implicitDefEqProofs only [↓v_lenS, SB, POp.val, AOp.val, WOp.val, Lite.bin, intBin, strBin, eqv, eqMany, eq1, AV.asBool, AV.asInt, AV.asNat, AV.asPtr, AV.asStr, resVals, ResV.val, oneOr, wants, skipped, fillAt, putAt, capOf, optNat, bnd, Nat.reduceBEq, reduceIte, Nat.reduceAdd, Nat.reduceLeDiff, Nat.reduceEqDiff, Nat.reduceSub, Nat.reduceMul, Nat.reduceDiv, SOper.again, same, sameBlk, sameCap, Nat.reduceBneDiff, s_draw2, s_pair, k_pair, asunder, SOper.into, Bool.not_false, Bool.not_true]) ?_
  refine ((digits40 x hx hk).and ((digits40 y hy hk).and (k42.and htx))).mono fun n e H => ?_
  obtain ⟨e1, e2, e3, e4⟩ := e
  unfold opT at e4 ⊢
  generalize (sumS (decide (x < 0)) x.natAbs (decide (y < 0)) y.natAbs).1 = s at *
  generalize limbs 10 x.natAbs = X at *
  generalize limbs 10 y.natAbs = Y at *
  simp -implicitDefEqProofs only [c25, ↓v_lenS, SB, POp.val, AOp.val, WOp.val, Lite.bin, intBin, strBin, eqv, eqMany, eq1, AV.asBool, AV.asInt, AV.asNat, AV.asPtr, AV.asStr, resVals, ResV.val, oneOr, wants, skipped, fillAt, putAt, capOf, optNat, bnd, Nat.reduceBEq, reduceIte, Nat.reduceAdd, Nat.reduceLeDiff, Nat.reduceEqDiff, Nat.reduceSub, Nat.reduceMul, Nat.reduceDiv, SOper.again, same, sameBlk, sameCap, Nat.reduceBneDiff, s_draw2, s_pair, k_pair, asunder, SOper.into, Bool.not_false, Bool.not_true, CL, BS, e1, e2, e3, e4, Ends, gives_ret]
  exact ⟨_, rfl⟩

theorem sub26 (x y : Int) {k : Nat} (hx : x.natAbs < 10 ^ (k + 1)) (hy : y.natAbs < 10 ^ (k + 1)) (hk : k ≤ 2000) : Ret P4 26 [.str (decZ x), .str (decZ y)] (opT (x - y)) := by
  have hB : 2 ≤ 10 := by omega
  have hl1 := limbs_len_le hB hx
  have hl2 := limbs_len_le hB hy
  obtain ⟨h, z, k42, hz1, hz2, hz3⟩ := sum42 (decide (x < 0)) (!decide (y < 0)) false false x.natAbs y.natAbs (by omega) (by omega)
  have hv := sumS_val (decide (x < 0)) x.natAbs (!decide (y < 0)) y.natAbs
  rw [valZ_abs, neg_flag true] at hv
  have htx := text41 h (sumS (decide (x < 0)) x.natAbs (!decide (y < 0)) y.natAbs).1 z hz1 (by omega)
  rw [hz2, hv, show x + -y = x - y by omega] at htx
  refine Ret.of rfl (code26 _ _) rfl rfl (fun H => by simp -implicitDefEqProofs only [↓v_lenS, SB, POp.val, AOp.val, WOp.val, Lite.bin, intBin, strBin, eqv, eqMany, eq1, AV.asBool, AV.asInt, AV.asNat, AV.asPtr, AV.asStr, resVals, ResV.val, oneOr, wants, skipped, fillAt, putAt, capOf, optNat, bnd, Nat.reduceBEq, reduceIte, Nat.reduceAdd, Nat.reduceLeDiff, Nat.reduceEqDiff, Nat.reduceSub, Nat.reduceMul, Nat.reduceDiv, SOper.again, same, sameBlk, sameCap, Nat.reduceBneDiff, s_draw2, s_pair, k_pair, asunder, SOper.into, Bool.not_false, Bool.not_true]) ?_
  refine ((digits40 x hx hk).and ((digits40 y hy hk).and (k42.and htx))).mono fun n e H => ?_
  obtain ⟨e1, e2, e3, e4⟩ := e
  unfold opT at e4 ⊢
  generalize (sumS (decide (x < 0)) x.natAbs (!decide (y < 0)) y.natAbs).1 = s at *
  generalize limbs 10 x.natAbs = X at *
  generalize limbs 10 y.natAbs = Y at *
  simp -implicitDefEqProofs only [c26, ↓v_lenS, SB, POp.val, AOp.val, WOp.val, Lite.bin, intBin, strBin, eqv, eqMany, eq1, AV.asBool, AV.asInt, AV.asNat, AV.asPtr, AV.asStr, resVals, ResV.val, oneOr, wants, skipped, fillAt, putAt, capOf, optNat, bnd, Nat.reduceBEq, reduceIte, Nat.reduceAdd, Nat.reduceLeDiff, Nat.reduceEqDiff, Nat.reduceSub, Nat.reduceMul, Nat.reduceDiv, SOper.again, same, sameBlk, sameCap, Nat.reduceBneDiff, s_draw2, s_pair, k_pair, asunder, SOper.into, Bool.not_false, Bool.not_true, CL, BS, e1, e2, e3, e4, Ends, gives_ret]
  exact ⟨_, rfl⟩

theorem cmpN_sgn (a b : Nat) : cmpN a b = sgn ((a : Int) - b) := by
  unfold cmpN
  by_cases h : a < b
  · rw [if_pos h, sgn_neg (by omega)]
  · rw [if_neg h]
    by_cases h2 : b < a
    · rw [if_pos h2, sgn_pos (by omega)]
    · rw [if_neg h2]
      have : (a : Int) - b = 0 := by omega
      rw [this]; rfl

theorem cmp28 (x y : Int) {k : Nat} (hx : x.natAbs < 10 ^ (k + 1)) (hy : y.natAbs < 10 ^ (k + 1)) (hk : k ≤ 2000) : Ret P4 28 [.str (decZ x), .str (decZ y)] (.int .i64 (sgn (x - y))) := by
  have hB : 2 ≤ 10 := by omega
  have hl1 := limbs_len_le hB hx
  have hl2 := limbs_len_le hB hy
  have k1 := cmp44 false false _ _ (limbs_below hB x.natAbs) (limbs_below hB y.natAbs) (limbs_last hB _) (limbs_last hB _) (by omega) (by omega)
  have k2 := cmp44 false false _ _ (limbs_below hB y.natAbs) (limbs_below hB x.natAbs) (limbs_last hB _) (limbs_last hB _) (by omega) (by omega)
  rw [lval_limbs hB, lval_limbs hB, cmpN_sgn] at k1 k2
  refine Ret.of rfl (code28 _ _) rfl rfl (fun H => by simp -implicitDefEqProofs only [↓v_lenS, SB, POp.val, AOp.val, WOp.val, Lite.bin, intBin, strBin, eqv, eqMany, eq1, AV.asBool, AV.asInt, AV.asNat, AV.asPtr, AV.asStr, resVals, ResV.val, oneOr, wants, skipped, fillAt, putAt, capOf, optNat, bnd, Nat.reduceBEq, reduceIte, Nat.reduceAdd, Nat.reduceLeDiff, Nat.reduceEqDiff, Nat.reduceSub, Nat.reduceMul, Nat.reduceDiv, SOper.again, same, sameBlk, sameCap, Nat.reduceBneDiff, s_draw2, s_pair, k_pair, asunder, SOper.into, Bool.not_false, Bool.not_true]) ?_
  refine ((digits40 x hx hk).and ((digits40 y hy hk).and (k1.and k2))).mono fun n e H => ?_
  obtain ⟨e1, e2, e3, e4⟩ := e
  by_cases hx0 : x < 0
  · by_cases hy0 : y < 0
    · rw [decide_eq_true hx0] at e1
      rw [decide_eq_true hy0] at e2
      rw [show ((y.natAbs : Int) - x.natAbs) = x - y by omega] at e4
      generalize sgn (x - y) = s at *
      generalize limbs 10 x.natAbs = X at *
      generalize limbs 10 y.natAbs = Y at *
      simp -implicitDefEqProofs only [c28, ↓v_lenS, SB, POp.val, AOp.val, WOp.val, Lite.bin, intBin, strBin, eqv, eqMany, eq1, AV.asBool, AV.asInt, AV.asNat, AV.asPtr, AV.asStr, resVals, ResV.val, oneOr, wants, skipped, fillAt, putAt, capOf, optNat, bnd, Nat.reduceBEq, reduceIte, Nat.reduceAdd, Nat.reduceLeDiff, Nat.reduceEqDiff, Nat.reduceSub, Nat.reduceMul, Nat.reduceDiv, SOper.again, same, sameBlk, sameCap, Nat.reduceBneDiff, s_draw2, s_pair, k_pair, asunder, SOper.into, Bool.not_false, Bool.not_true, CL, BS, e1, e2, e4, bne_self_eq_false, Ends, gives_ret]
      exact ⟨_, rfl⟩
    · rw [decide_eq_true hx0] at e1
      rw [decide_eq_false hy0] at e2
      rw [sgn_neg (z := x - y) (by omega)]
      generalize limbs 10 x.natAbs = X at *
      generalize limbs 10 y.natAbs = Y at *
      simp -implicitDefEqProofs only [c28, ↓v_lenS, SB, POp.val, AOp.val, WOp.val, Lite.bin, intBin, strBin, eqv, eqMany, eq1, AV.asBool, AV.asInt, AV.asNat, AV.asPtr, AV.asStr, resVals, ResV.val, oneOr, wants, skipped, fillAt, putAt, capOf, optNat, bnd, Nat.reduceBEq, reduceIte, Nat.reduceAdd, Nat.reduceLeDiff, Nat.reduceEqDiff, Nat.reduceSub, Nat.reduceMul, Nat.reduceDiv, SOper.again, same, sameBlk, sameCap, Nat.reduceBneDiff, s_draw2, s_pair, k_pair, asunder, SOper.into, Bool.not_false, Bool.not_true, CL, BS, e1, e2, Ends, gives_ret]
      exact ⟨_, rfl⟩
  · by_cases hy0 : y < 0
    · rw [decide_eq_false hx0] at e1
      rw [decide_eq_true hy0] at e2
      rw [sgn_pos (z := x - y) (by omega)]
      generalize limbs 10 x.natAbs = X at *
      generalize limbs 10 y.natAbs = Y at *
      simp -implicitDefEqProofs only [c28, ↓v_lenS, SB, POp.val, AOp.val, WOp.val, Lite.bin, intBin, strBin, eqv, eqMany, eq1, AV.asBool, AV.asInt, AV.asNat, AV.asPtr, AV.asStr, resVals, ResV.val, oneOr, wants, skipped, fillAt, putAt, capOf, optNat, bnd, Nat.reduceBEq, reduceIte, Nat.reduceAdd, Nat.reduceLeDiff, Nat.reduceEqDiff, Nat.reduceSub, Nat.reduceMul, Nat.reduceDiv, SOper.again, same, sameBlk, sameCap, Nat.reduceBneDiff, s_draw2, s_pair, k_pair, asunder, SOper.into, Bool.not_false, Bool.not_true, CL, BS, e1, e2, Ends, gives_ret]
      exact ⟨_, rfl⟩
    · rw [decide_eq_false hx0] at e1
      rw [decide_eq_false hy0] at e2
      rw [show ((x.natAbs : Int) - y.natAbs) = x - y by omega] at e3
      generalize sgn (x - y) = s at *
      generalize limbs 10 x.natAbs = X at *
      generalize limbs 10 y.natAbs = Y at *
      simp -implicitDefEqProofs only [c28, ↓v_lenS, SB, POp.val, AOp.val, WOp.val, Lite.bin, intBin, strBin, eqv, eqMany, eq1, AV.asBool, AV.asInt, AV.asNat, AV.asPtr, AV.asStr, resVals, ResV.val, oneOr, wants, skipped, fillAt, putAt, capOf, optNat, bnd, Nat.reduceBEq, reduceIte, Nat.reduceAdd, Nat.reduceLeDiff, Nat.reduceEqDiff, Nat.reduceSub, Nat.reduceMul, Nat.reduceDiv, SOper.again, same, sameBlk, sameCap, Nat.reduceBneDiff, s_draw2, s_pair, k_pair, asunder, SOper.into, Bool.not_false, Bool.not_true, CL, BS, e1, e2, e3, Ends, gives_ret]
      exact ⟨_, rfl⟩

end Go.Lite

/-
  The document's quotient and rest.
-/
namespace Go.Lite
open Go Go.Proofs
set_option maxRecDepth 100000
set_option linter.unusedSimpArgs false
set_option linter.unusedVariables false

theorem lval_drop {l : List Nat} {j : Nat} (h : j < l.length) : lval 10 (l.drop j) = atN l j + 10 * lval 10 (l.drop (j + 1)) := by
  have a := atN_at h
  rw [List.getElem?_eq_getElem h] at a
  simp only [Option.some.injEq] at a
  rw [List.drop_eq_getElem_cons h, a]
  rfl

def remW (X : List Nat) (b i : Nat) : Nat := lval 10 (X.drop (X.length - i)) % b
def inW (X : List Nat) (b i : Nat) : Nat := 10 * remW X b i + atN X (X.length - (i + 1))
def quoW (X : List Nat) (b : Nat) : Nat → List Nat
  | 0 => []
  | i + 1 => (inW X b i / b) :: quoW X b i

theorem quoW_len (X : List Nat) (b : Nat) : ∀ i, (quoW X b i).length = i
  | 0 => rfl
  | i + 1 => by rw [quoW, List.length_cons, quoW_len X b i]

theorem remW_zero (X : List Nat) (b : Nat) : remW X b 0 = 0 := by
  unfold remW
  rw [List.drop_of_length_le (by omega)]
  simp [lval]

theorem inW_split {X : List Nat} {b i : Nat} (hi : i < X.length) : lval 10 (X.drop (X.length - (i + 1))) = inW X b i + b * (10 * (lval 10 (X.drop (X.length - i)) / b)) := by
  have h1 := lval_drop (l := X) (j := X.length - (i + 1)) (by omega)
  rw [show X.length - (i + 1) + 1 = X.length - i by omega] at h1
  have h2 := Nat.div_add_mod (lval 10 (X.drop (X.length - i))) b
  have h3 : b * (10 * (lval 10 (X.drop (X.length - i)) / b)) = 10 * (b * (lval 10 (X.drop (X.length - i)) / b)) := Nat.mul_left_comm ..
  unfold inW remW
  rw [h3, h1]
  omega

theorem remW_succ {X : List Nat} {b i : Nat} (hi : i < X.length) : remW X b (i + 1) = inW X b i % b := by
  have h := inW_split (b := b) hi
  show lval 10 (X.drop (X.length - (i + 1))) % b = _
  rw [h, Nat.add_mul_mod_self_left]

theorem quoW_val {X : List Nat} {b : Nat} (hb : 0 < b) : ∀ i, i ≤ X.length → lval 10 (quoW X b i) = lval 10 (X.drop (X.length - i)) / b
  | 0, _ => by
    rw [List.drop_of_length_le (by omega)]
    simp [quoW, lval]
  | i + 1, hi => by
    have h := inW_split (b := b) (X := X) (i := i) (by omega)
    rw [h, Nat.add_mul_div_left _ _ hb, ← quoW_val hb i (by omega)]
    rfl

theorem inW_lt {X : List Nat} (h : Under 10 X) {b i : Nat} (hb : 0 < b) : inW X b i < 10 * b := by
  have h1 : remW X b i < b := Nat.mod_lt _ hb
  have h2 := atN_lt (by omega) h (X.length - (i + 1))
  unfold inW; omega
theorem inW_div {X : List Nat} (h : Under 10 X) {b i : Nat} (hb : 0 < b) : inW X b i / b < 10 := by
  rw [Nat.div_lt_iff_lt_mul hb]; exact inW_lt h hb

theorem quoW_under {X : List Nat} (h : Under 10 X) {b : Nat} (hb : 0 < b) : ∀ i, Under 10 (quoW X b i)
  | 0 => .nil
  | i + 1 => fun d hd => by
    rw [quoW, List.mem_cons] at hd
    rcases hd with rfl | hd
    · exact inW_div h hb
    · exact quoW_under h hb i d hd

/-- a made row, told, may it be empty -/
theorem made_shut' {Z : List Nat} {H : Heap} {k : Nat} (hk : H.t.get k = some (.row (Z.flatMap nat1) 0 false none)) : ∃ f, shutV (.slice (.new k) 0 Z.length (.fix Z.length 1)) H = some (vN f Z, H.put k (.row (Z.flatMap nat1) 0 true none)) := by
  cases Z with
  | nil => exact ⟨(Cap.fix 0 1).full 0, by simp only [shutV_slice, shutC, hk]; rfl⟩
  | cons z Z => exact ⟨true, made_shut (by simp) hk⟩

/-- a row behind one more digit -/
theorem app_front {G : Heap} (low : HLow G) (d : Nat) (l : List Nat) (hb : l.length ≤ 1000000) :
    ∃ v G', appendOf 3 1 8 G (.lst 1 1 true [.int .i64 (d : Int)]) (l.length, l.flatMap nat1) = some (v, G') ∧ v.flat = true ∧
      ∃ G2, shutV v G' = some (vN true (d :: l), G2) ∧ HLow G2 ∧ ∀ j o, G.t.get j = some o → G2.t.get j = some o := by
  have hfl : (l.flatMap nat1).all AV.flat = true := by
    rw [List.all_eq_true]
    intro x hx
    obtain ⟨a, _, ha⟩ := List.mem_flatMap.1 hx
    simp only [nat1, List.mem_singleton] at ha
    subst ha; rfl
  unfold appendOf
  rw [if_neg (by simp [hfl])]
  simp only []
  by_cases h0 : l.length = 0
  · rw [if_pos h0]
    obtain rfl := List.eq_nil_of_length_eq_zero h0
    exact ⟨_, _, rfl, rfl, G, rfl, low, fun j o h => h⟩
  · rw [if_neg h0, if_pos ⟨.inl trivial, trivial, by omega, by omega⟩]
    refine ⟨_, _, rfl, rfl, ?_⟩
    have hl : ([AV.int .i64 (d : Int)] ++ l.flatMap nat1).length = 1 + l.length := by rw [List.length_append, nats_len]; rfl
    have acc : Acc 0 (G.push (.row ([AV.int .i64 (d : Int)] ++ l.flatMap nat1) 1 false (some 3))) 3 1 (1 + l.length) ((d :: l).flatMap nat1) (.slice (.new G.n) 0 (1 + l.length) (.gro 1)) :=
      .inr ⟨by omega, by rw [nats_len, List.length_cons]; omega, G.n, rfl, Nat.zero_le _, by rw [h_get, if_pos rfl]; rfl⟩
    obtain ⟨H', hs, kp⟩ := acc.shutV (by decide) (nats_still _)
    refine ⟨H', ?_, kp.low low.push, fun j o hg => ?_⟩
    · show shutV (.slice (.new G.n) 0 (1 + l.length) (.gro 1)) _ = _
      rw [hs]
      show some (AV.L true 1 _ (1 + l.length), H') = some (AV.L true 1 _ (l.length + 1), H')
      rw [Nat.add_comm]
    · have hj := low j _ hg
      exact kp.get j o (by rw [h_get, if_neg (by omega)]; exact hg) (by rintro ⟨o', m, c, he⟩; simp only [AV.slice.injEq, Blk.new.injEq] at he; omega)

/-- how often b goes into v -/
theorem quoW_l0 {n m v b j : Nat} {s7 s8 s10 : AV} {Z : List Nat} {fr : Fr} {H : Heap} {KK : Ex → Fr → Heap → R} {Q : AV → Heap → Prop} (hb : 0 < b) (hv : v / b < 10) (hm : 12 ≤ m) (hj : j < Z.length) (hZ : Z.length ≤ 900000) (hz0 : atN Z j = 0)
    (e44 : ∀ k, k < 11 → k * b ≤ v → ∀ H, callN P4 n 44 [vN false (limbs 10 (v - k * b)), vN false (limbs 10 b)] H = some (.ret (.int .i64 (cmpN (v - k * b) b)), H))
    (e45 : ∀ k, k < 11 → (k + 1) * b ≤ v → ∀ H, callN P4 n 45 [vN false (limbs 10 (v - k * b)), vN false (limbs 10 b)] H = some (.ret (vN false (limbs 10 (v - (k + 1) * b))), H))
    (h7 : fr 7 = s7) (h8 : fr 8 = s8) (h9 : fr 9 = vN false (limbs 10 b)) (h10 : fr 10 = s10) (h11 : fr 11 = .slice (.new 0) 0 Z.length (.fix Z.length 1)) (h12 : fr 12 = vN false (limbs 10 v)) (h13 : fr 13 = .int .i64 (j + 1 : Nat))
    (g0 : H.t.get 0 = some (.row (Z.flatMap nat1) 0 false none)) (low : HLow H)
    (hK : ∀ (fr : Fr) (H : Heap), fr 7 = s7 → fr 8 = s8 → fr 9 = vN false (limbs 10 b) → fr 10 = s10 → fr 11 = .slice (.new 0) 0 Z.length (.fix Z.length 1) → fr 12 = vN false (limbs 10 (v % b)) → fr 13 = .int .i64 (j + 1 : Nat) →
      H.t.get 0 = some (.row ((Z.set j (v / b)).flatMap nat1) 0 false none) → HLow H → Gives (KK (.exit 2) fr H) Q) :
    Gives (loopR (callN P4 n) n c27_l0 m fr H KK) Q := by
  have hle : ∀ k, k ≤ v / b → k * b ≤ v := fun k h => Nat.le_trans (Nat.mul_le_mul_right b h) (Nat.div_mul_le_self v b)
  have hw13 : IntKind.i64.wrap (((j + 1 : Nat) : Int) - 1) = (j : Int) := by rw [wrap64 (by omega) (by omega)]; omega
  refine loop_rounds (v / b) (fun k fr H => fr 7 = s7 ∧ fr 8 = s8 ∧ fr 9 = vN false (limbs 10 b) ∧ fr 10 = s10 ∧ fr 11 = .slice (.new 0) 0 Z.length (.fix Z.length 1) ∧ fr 12 = vN false (limbs 10 (v - k * b)) ∧ fr 13 = .int .i64 (j + 1 : Nat) ∧ H.t.get 0 = some (.row ((Z.set j k).flatMap nat1) 0 false none) ∧ HLow H) ?_ ?_ m 0 _ _ (Nat.zero_le _) (by omega) ⟨h7, h8, h9, h10, h11, by simpa using h12, h13, ?_, low⟩
  · rintro k fr H K' hi ⟨h7, h8, h9, h10, h11, h12, h13, g0, low⟩ hKe hKr hK'
    have e1 := e44 k (by omega) (hle k (by omega))
    have e2 := e45 k (by omega) (hle (k + 1) (by omega))
    have hc : cmpN (v - k * b) b ≥ 0 := cmpN_ge (by have := hle (k + 1) (by omega); rw [Nat.succ_mul] at this; omega)
    have hw : IntKind.i64.wrap ((k : Int) + 1) = ((k + 1 : Nat) : Int) := wrap_succ (n := k + 1) (by omega) (by omega)
    have hsl : (Z.set j k).length = Z.length := List.length_set
    have hat' := nats_at (Z := Z.set j k) (p := j) (by omega)
    rw [atN_set hj] at hat'
    have hset' := nats_set (Z := Z.set j k) (p := j) (v := k + 1) (by omega)
    rw [List.set_set] at hset'
    have hlen := nats_len (Z.set j k)
    have hplC : j + 1 ≤ ((Z.set j k).flatMap nat1).length := by omega
    have h0 := low.lt g0
    generalize hC : (Z.set j k).flatMap nat1 = C at *
    generalize hC' : (Z.set j (k + 1)).flatMap nat1 = C' at *
    generalize cmpN (v - k * b) b = c at *
    simp -implicitDefEqProofs only [c27_l0, ↓v_lenS, SB, POp.val, AOp.val, WOp.val, Lite.bin, intBin, strBin, eqv, eqMany, eq1, AV.asBool, AV.asInt, AV.asNat, AV.asPtr, AV.asStr, resVals, ResV.val, oneOr, wants, skipped, fillAt, putAt, capOf, optNat, bnd, Nat.reduceBEq, reduceIte, Nat.reduceAdd, Nat.reduceLeDiff, Nat.reduceEqDiff, Nat.reduceSub, Nat.reduceMul, Nat.reduceDiv, SOper.again, same, sameBlk, sameCap, Nat.reduceBneDiff, s_draw2, s_pair, k_pair, asunder, SOper.into, Bool.not_false, Bool.not_true, CL, BS, Nat.mul_one, h9, h11, h12, h13, g0, e1, e2, hc, hw, hw13, hj, hat', hplC, hset']
    refine hK' _ _ ⟨?_, ?_, ?_, ?_, ?_, ?_, ?_, ?_, low.put h0⟩
    all_goals simp -implicitDefEqProofs only [↓v_lenS, SB, POp.val, AOp.val, WOp.val, Lite.bin, intBin, strBin, eqv, eqMany, eq1, AV.asBool, AV.asInt, AV.asNat, AV.asPtr, AV.asStr, resVals, ResV.val, oneOr, wants, skipped, fillAt, putAt, capOf, optNat, bnd, Nat.reduceBEq, reduceIte, Nat.reduceAdd, Nat.reduceLeDiff, Nat.reduceEqDiff, Nat.reduceSub, Nat.reduceMul, Nat.reduceDiv, SOper.again, same, sameBlk, sameCap, Nat.reduceBneDiff, s_draw2, s_pair, k_pair, asunder, SOper.into, Bool.not_false, Bool.not_true, h7, h8, h9, h10, h11, h13]
  · rintro fr H K' ⟨h7, h8, h9, h10, h11, h12, h13, g0, low⟩ hKe hKr
    have e1 := e44 (v / b) (by omega) (hle _ (Nat.le_refl _))
    have hm : v - v / b * b = v % b := by
      have := Nat.div_add_mod v b
      rw [Nat.mul_comm] at this; omega
    rw [hm] at e1 h12
    have hc : ¬ cmpN (v % b) b ≥ 0 := cmpN_lt (Nat.mod_lt _ hb)
    generalize cmpN (v % b) b = c at *
    simp -implicitDefEqProofs only [c27_l0, ↓v_lenS, SB, POp.val, AOp.val, WOp.val, Lite.bin, intBin, strBin, eqv, eqMany, eq1, AV.asBool, AV.asInt, AV.asNat, AV.asPtr, AV.asStr, resVals, ResV.val, oneOr, wants, skipped, fillAt, putAt, capOf, optNat, bnd, Nat.reduceBEq, reduceIte, Nat.reduceAdd, Nat.reduceLeDiff, Nat.reduceEqDiff, Nat.reduceSub, Nat.reduceMul, Nat.reduceDiv, SOper.again, same, sameBlk, sameCap, Nat.reduceBneDiff, s_draw2, s_pair, k_pair, asunder, SOper.into, Bool.not_false, Bool.not_true, CL, BS, h9, h12, e1, hc, hKe]
    refine hK _ _ ?_ ?_ ?_ ?_ ?_ ?_ ?_ g0 low
    all_goals simp -implicitDefEqProofs only [↓v_lenS, SB, POp.val, AOp.val, WOp.val, Lite.bin, intBin, strBin, eqv, eqMany, eq1, AV.asBool, AV.asInt, AV.asNat, AV.asPtr, AV.asStr, resVals, ResV.val, oneOr, wants, skipped, fillAt, putAt, capOf, optNat, bnd, Nat.reduceBEq, reduceIte, Nat.reduceAdd, Nat.reduceLeDiff, Nat.reduceEqDiff, Nat.reduceSub, Nat.reduceMul, Nat.reduceDiv, SOper.again, same, sameBlk, sameCap, Nat.reduceBneDiff, s_draw2, s_pair, k_pair, asunder, SOper.into, Bool.not_false, Bool.not_true, h7, h8, h9, h10, h11, h12, h13]
  · rw [set_same (by rw [atN_at hj, hz0])]; exact g0

/-- a row that can be taken, told -/
def RN (v : AV) (l : List Nat) : Prop := (∀ H, taken 1 H v = some (l.length, l.flatMap nat1)) ∧ v.flat = true ∧ ∃ f, ∀ H, shutV v H = some (vN f l, H)
theorem RN.vN (f : Bool) (l : List Nat) : RN (vN f l) l := ⟨fun H => taken_vN, fl_vN, f, fun H => shutV_vN⟩
theorem RN.nils : RN .nils [] := ⟨fun H => rfl, rfl, true, fun H => rfl⟩

theorem set_zeros (j : Nat) (q : List Nat) (v : Nat) : (List.replicate (j + 1) 0 ++ q).set j v = List.replicate j 0 ++ v :: q := by
  rw [List.replicate_succ', List.append_assoc, List.set_append_right _ _ (by simp)]
  simp

theorem quo27 (x y : Int) {k : Nat} (hx : x.natAbs < 10 ^ (k + 1)) (hy : y.natAbs < 10 ^ (k + 1)) (hk : k ≤ 1000) (hy0 : y ≠ 0) : Ret P4 27 [.str (decZ x), .str (decZ y)] (.tuple [.str (opZ (x.tdiv y)), .str (opZ (x.tmod y)), .bool true]) := by
  have hB : 2 ≤ 10 := by omega
  have hqv := quo_val x y
  have hrv := rem_val x y
  have d1 := digits40 x hx (by omega)
  have d2 := digits40 y hy (by omega)
  have hl1 := limbs_len_le hB hx
  have hl2 := limbs_len_le hB hy
  have hux := limbs_below hB x.natAbs
  have huy := limbs_below hB y.natAbs
  have hvx := lval_limbs hB x.natAbs
  have hb0 : 0 < y.natAbs := by omega
  have hpk : (10 : Nat) ^ (k + 2) = 10 ^ (k + 1) * 10 := Nat.pow_succ ..
  have hsm : ∀ w, w < 10 * y.natAbs → (limbs 10 w).length ≤ k + 2 := fun w hw => limbs_len_le hB (by omega)
  generalize hX : limbs 10 x.natAbs = X at *
  generalize hb : y.natAbs = b at *
  generalize x.natAbs = a at *
  have hquo := quoW_val (X := X) hb0 X.length (Nat.le_refl _)
  have hqu := quoW_under hux hb0 X.length
  have hrem : remW X b X.length = a % b := by unfold remW; rw [Nat.sub_self, List.drop_zero, hvx]
  rw [Nat.sub_self, List.drop_zero, hvx] at hquo
  have ht1 := fun f => text41 f (!(decide (x < 0) == decide (y < 0))) (quoW X b X.length) hqu (by rw [quoW_len]; omega)
  have ht2 := fun f => text41 f (decide (x < 0)) (limbs 10 (a % b)) (limbs_below hB _) (by have := hsm (a % b) (by have := Nat.mod_lt a hb0; omega); omega)
  rw [hquo, hqv] at ht1
  rw [lval_limbs hB, hrv] at ht2
  unfold opT at ht1 ht2
  have steps : Ev fun n => ∀ i, i < X.length →
      (∀ H, callN P4 n 43 [vN true (atN X (X.length - (i + 1)) :: limbs 10 (remW X b i))] H = some (.ret (vN false (limbs 10 (inW X b i))), H)) ∧
      (∀ k, k < 11 → k * b ≤ inW X b i → ∀ H, callN P4 n 44 [vN false (limbs 10 (inW X b i - k * b)), vN false (limbs 10 b)] H = some (.ret (.int .i64 (cmpN (inW X b i - k * b) b)), H)) ∧
      (∀ k, k < 11 → (k + 1) * b ≤ inW X b i → ∀ H, callN P4 n 45 [vN false (limbs 10 (inW X b i - k * b)), vN false (limbs 10 b)] H = some (.ret (vN false (limbs 10 (inW X b i - (k + 1) * b))), H)) := by
    have key := Ev.all (List.range X.length) (p := fun i n =>
      (∀ H, callN P4 n 43 [vN true (atN X (X.length - (i + 1)) :: limbs 10 (remW X b i))] H = some (.ret (vN false (limbs 10 (inW X b i))), H)) ∧
      (∀ k, k < 11 → k * b ≤ inW X b i → ∀ H, callN P4 n 44 [vN false (limbs 10 (inW X b i - k * b)), vN false (limbs 10 b)] H = some (.ret (.int .i64 (cmpN (inW X b i - k * b) b)), H)) ∧
      (∀ k, k < 11 → (k + 1) * b ≤ inW X b i → ∀ H, callN P4 n 45 [vN false (limbs 10 (inW X b i - k * b)), vN false (limbs 10 b)] H = some (.ret (vN false (limbs 10 (inW X b i - (k + 1) * b))), H))) ?_
    · exact key.mono fun n h i hi => h i (List.mem_range.2 hi)
    · intro i hi
      replace hi := List.mem_range.1 hi
      have hr : remW X b i < b := Nat.mod_lt _ hb0
      have hd := atN_lt (by omega) hux (X.length - (i + 1))
      have hin := inW_lt hux (i := i) hb0
      have hinv : inW X b i = 10 * remW X b i + atN X (X.length - (i + 1)) := rfl
      rw [hinv] at hin ⊢
      generalize remW X b i = r at *
      generalize atN X (X.length - (i + 1)) = c at *
      have hlr := hsm r (by omega)
      have p1 := trim43 true (c :: limbs 10 r) (by rw [List.length_cons]; omega)
      have hu1 : Under 10 (c :: limbs 10 r) := fun d hd' => by
        rcases List.mem_cons.1 hd' with rfl | h
        · exact hd
        · exact limbs_below hB r d h
      have hv1 : lval 10 (c :: limbs 10 r) = 10 * r + c := by
        show c + 10 * lval 10 (limbs 10 r) = _
        rw [lval_limbs hB]; omega
      rw [← limbs_trim hB hu1, hv1, show tf true (c :: limbs 10 r) = false from rfl] at p1
      have hlb := hsm b (by omega)
      have p6 := Ev.all (List.range 11) fun k _ => cmp44 false false _ _ (limbs_below hB (10 * r + c - k * b)) (limbs_below hB b) (limbs_last hB _) (limbs_last hB _) (by have := hsm (10 * r + c - k * b) (by omega); omega) (by omega)
      have p7 := Ev.all (List.range 11) (p := fun k n => (k + 1) * b ≤ 10 * r + c → ∀ H, callN P4 n 45 [vN false (limbs 10 (10 * r + c - k * b)), vN false (limbs 10 b)] H = some (.ret (vN false (limbs 10 (10 * r + c - (k + 1) * b))), H)) fun k _ => by
        have hmul : (k + 1) * b = k * b + b := Nat.succ_mul k b
        rw [hmul]
        by_cases hle : k * b + b ≤ 10 * r + c
        · have := less45 false false _ _ (limbs_below hB (10 * r + c - k * b)) (limbs_below hB b) (by have := hsm (10 * r + c - k * b) (by omega); omega) (limbs10_mono (by omega)) (by rw [lval_limbs hB, lval_limbs hB]; omega)
          rw [lval_limbs hB, lval_limbs hB, show 10 * r + c - k * b - b = 10 * r + c - (k * b + b) by omega] at this
          have htf : tf true (limbs 10 (10 * r + c - k * b)) = false := by
            rw [limbs_pos hB (by omega)]; rfl
          rw [htf] at this
          exact this.mono fun n h _ => h
        · exact Ev.of fun n h => absurd h hle
      exact (p1.and (p6.and p7)).mono fun n h =>
        ⟨h.1, fun k hk _ H => by have := h.2.1 k (List.mem_range.2 hk) H; rwa [lval_limbs hB, lval_limbs hB] at this, fun k hk => h.2.2 k (List.mem_range.2 hk)⟩
  refine Ret.of rfl (code27 _ _) rfl rfl (fun H => by simp -implicitDefEqProofs only [↓v_lenS, SB, POp.val, AOp.val, WOp.val, Lite.bin, intBin, strBin, eqv, eqMany, eq1, AV.asBool, AV.asInt, AV.asNat, AV.asPtr, AV.asStr, resVals, ResV.val, oneOr, wants, skipped, fillAt, putAt, capOf, optNat, bnd, Nat.reduceBEq, reduceIte, Nat.reduceAdd, Nat.reduceLeDiff, Nat.reduceEqDiff, Nat.reduceSub, Nat.reduceMul, Nat.reduceDiv, SOper.again, same, sameBlk, sameCap, Nat.reduceBneDiff, s_draw2, s_pair, k_pair, asunder, SOper.into, Bool.not_false, Bool.not_true]) ?_
  refine (d1.and (d2.and ((ht1 true).and ((ht1 false).and ((ht2 true).and ((ht2 false).and (steps.and (Ev.ge (X.length + 20))))))))).mono fun n e H => ?_
  obtain ⟨e1, e2, e3t, e3f, e5t, e5f, e7, hge⟩ := e
  have e3 : ∀ f H, callN P4 n 41 [vN f (quoW X b X.length)  , .bool (!(decide (x < 0) == decide (y < 0)))] H = some (.ret (.tuple [.str (opZ (x.tdiv y)), .bool (decide ((x.tdiv y).natAbs < 10 ^ 200))]), H) := fun f => by cases f; exact e3f; exact e3t
  have e5 : ∀ f H, callN P4 n 41 [vN f (limbs 10 (a % b)), .bool (decide (x < 0))] H = some (.ret (.tuple [.str (opZ (x.tmod y)), .bool (decide ((x.tmod y).natAbs < 10 ^ 200))]), H) := fun f => by cases f; exact e5f; exact e5t
  clear e3t e3f e5t e5f
  generalize decZ x = sx at *
  generalize decZ y = sy at *
  have hYne : (((limbs 10 b).length : Int) == 0) = false := by rw [limbs_pos hB hb0]; simp; omega
  have k1 : X.length * 8 ≤ 1099511627776 ∧ X.length ≤ 1099511627776 := by omega
  simp -implicitDefEqProofs only [c27, ↓v_lenS, SB, POp.val, AOp.val, WOp.val, Lite.bin, intBin, strBin, eqv, eqMany, eq1, AV.asBool, AV.asInt, AV.asNat, AV.asPtr, AV.asStr, resVals, ResV.val, oneOr, wants, skipped, fillAt, putAt, capOf, optNat, bnd, Nat.reduceBEq, reduceIte, Nat.reduceAdd, Nat.reduceLeDiff, Nat.reduceEqDiff, Nat.reduceSub, Nat.reduceMul, Nat.reduceDiv, SOper.again, same, sameBlk, sameCap, Nat.reduceBneDiff, s_draw2, s_pair, k_pair, asunder, SOper.into, Bool.not_false, Bool.not_true, CL, BS, e1, e2, hYne, k1.1, k1.2, rep_zeros]
  refine loop_gen (fun e fr H => e = .exit 0 ∧ fr 8 = .bool (decide (x < 0)) ∧ fr 10 = .bool (decide (y < 0)) ∧ fr 11 = .slice (.new 0) 0 X.length (.fix X.length 1) ∧ RN (fr 12) (limbs 10 (a % b)) ∧ H.t.get 0 = some (.row ((quoW X b X.length).flatMap nat1) 0 false none)) ?_ fun KK fin => ?_
  · rintro e fr H ⟨rfl, h8, h10, h11, ⟨t12, f12, f, h12⟩, g0⟩
    obtain ⟨f', hsh⟩ := made_shut' g0
    rw [quoW_len] at hsh
    simp -implicitDefEqProofs only [↓v_lenS, SB, POp.val, AOp.val, WOp.val, Lite.bin, intBin, strBin, eqv, eqMany, eq1, AV.asBool, AV.asInt, AV.asNat, AV.asPtr, AV.asStr, resVals, ResV.val, oneOr, wants, skipped, fillAt, putAt, capOf, optNat, bnd, Nat.reduceBEq, reduceIte, Nat.reduceAdd, Nat.reduceLeDiff, Nat.reduceEqDiff, Nat.reduceSub, Nat.reduceMul, Nat.reduceDiv, SOper.again, same, sameBlk, sameCap, Nat.reduceBneDiff, s_draw2, s_pair, k_pair, asunder, SOper.into, Bool.not_false, Bool.not_true, CL, BS, k_blockE, h8, h10, h11, t12, f12, h12, hsh, e3, e5, gives_ret]
    exact ⟨_, rfl⟩
  · refine loop_rounds X.length (fun i fr H => fr 7 = vN false X ∧ fr 8 = .bool (decide (x < 0)) ∧ fr 9 = vN false (limbs 10 b) ∧ fr 10 = .bool (decide (y < 0)) ∧ fr 11 = .slice (.new 0) 0 X.length (.fix X.length 1) ∧ RN (fr 12) (limbs 10 (remW X b i)) ∧ fr 13 = .int .i64 (X.length - i : Nat) ∧ H.t.get 0 = some (.row ((List.replicate (X.length - i) 0 ++ quoW X b i).flatMap nat1) 0 false none) ∧ HLow H) ?_ ?_ n 0 _ _ (by omega) (by omega) ?_
    · rintro i fr H K' hi ⟨h7, h8, h9, h10, h11, ⟨t12, f12, f, h12⟩, h13, g0, low⟩ hKe hKr hK
      obtain ⟨s1, s2, s3⟩ := e7 i hi
      obtain ⟨j, hj⟩ : ∃ j, j = X.length - (i + 1) := ⟨_, rfl⟩
      rw [← hj] at s1 hK
      rw [show X.length - i = j + 1 by omega] at h13 g0
      have hgt : ((j + 1 : Nat) : Int) > 0 := by omega
      have hw : IntKind.i64.wrap (((j + 1 : Nat) : Int) - 1) = (j : Int) := by rw [wrap64 (by omega) (by omega)]; omega
      have ha := iaddr_vN (f := false) (atN_at (l := X) (i := j) (by omega))
      have hv10 := inW_div hux (i := i) hb0
      have hrl : (limbs 10 (remW X b i)).length ≤ k + 2 := hsm _ (by have : remW X b i < b := Nat.mod_lt _ hb0; omega)
      obtain ⟨v, G', happ, hvf, G2, hsh, low2, keep2⟩ := app_front (low.push (ob := .row [.int .i64 (atN X j : Nat)] 0 true none)) (atN X j) (limbs 10 (remW X b i)) (by omega)
      have hZl : (List.replicate (j + 1) 0 ++ quoW X b i).length = X.length := by rw [List.length_append, List.length_replicate, quoW_len]; omega
      simp -implicitDefEqProofs only [c27_l1, ↓v_lenS, SB, POp.val, AOp.val, WOp.val, Lite.bin, intBin, strBin, eqv, eqMany, eq1, AV.asBool, AV.asInt, AV.asNat, AV.asPtr, AV.asStr, resVals, ResV.val, oneOr, wants, skipped, fillAt, putAt, capOf, optNat, bnd, Nat.reduceBEq, reduceIte, Nat.reduceAdd, Nat.reduceLeDiff, Nat.reduceEqDiff, Nat.reduceSub, Nat.reduceMul, Nat.reduceDiv, SOper.again, same, sameBlk, sameCap, Nat.reduceBneDiff, s_draw2, s_pair, k_pair, asunder, SOper.into, Bool.not_false, Bool.not_true, CL, BS, h7, t12, f12, h13, hgt, hw, ha, happ, hvf, hsh, s1]
      refine quoW_l0 (v := inW X b i) (b := b) (j := j) (s7 := vN false X) (s8 := .bool (decide (x < 0))) (s10 := .bool (decide (y < 0))) (Z := List.replicate (j + 1) 0 ++ quoW X b i) hb0 hv10 (by omega) ?_ ?_ ?_ s2 s3 ?_ ?_ ?_ ?_ ?_ ?_ ?_ ?_ low2 ?_
      · rw [hZl]; omega
      · rw [hZl]; omega
      · unfold atN
        rw [List.getElem?_append_left (by simp), List.getElem?_replicate, if_pos (by omega)]; rfl
      · simp -implicitDefEqProofs only [↓v_lenS, SB, POp.val, AOp.val, WOp.val, Lite.bin, intBin, strBin, eqv, eqMany, eq1, AV.asBool, AV.asInt, AV.asNat, AV.asPtr, AV.asStr, resVals, ResV.val, oneOr, wants, skipped, fillAt, putAt, capOf, optNat, bnd, Nat.reduceBEq, reduceIte, Nat.reduceAdd, Nat.reduceLeDiff, Nat.reduceEqDiff, Nat.reduceSub, Nat.reduceMul, Nat.reduceDiv, SOper.again, same, sameBlk, sameCap, Nat.reduceBneDiff, s_draw2, s_pair, k_pair, asunder, SOper.into, Bool.not_false, Bool.not_true, h7]
      · simp -implicitDefEqProofs only [↓v_lenS, SB, POp.val, AOp.val, WOp.val, Lite.bin, intBin, strBin, eqv, eqMany, eq1, AV.asBool, AV.asInt, AV.asNat, AV.asPtr, AV.asStr, resVals, ResV.val, oneOr, wants, skipped, fillAt, putAt, capOf, optNat, bnd, Nat.reduceBEq, reduceIte, Nat.reduceAdd, Nat.reduceLeDiff, Nat.reduceEqDiff, Nat.reduceSub, Nat.reduceMul, Nat.reduceDiv, SOper.again, same, sameBlk, sameCap, Nat.reduceBneDiff, s_draw2, s_pair, k_pair, asunder, SOper.into, Bool.not_false, Bool.not_true, h8]
      · simp -implicitDefEqProofs only [↓v_lenS, SB, POp.val, AOp.val, WOp.val, Lite.bin, intBin, strBin, eqv, eqMany, eq1, AV.asBool, AV.asInt, AV.asNat, AV.asPtr, AV.asStr, resVals, ResV.val, oneOr, wants, skipped, fillAt, putAt, capOf, optNat, bnd, Nat.reduceBEq, reduceIte, Nat.reduceAdd, Nat.reduceLeDiff, Nat.reduceEqDiff, Nat.reduceSub, Nat.reduceMul, Nat.reduceDiv, SOper.again, same, sameBlk, sameCap, Nat.reduceBneDiff, s_draw2, s_pair, k_pair, asunder, SOper.into, Bool.not_false, Bool.not_true, h9]
      · simp -implicitDefEqProofs only [↓v_lenS, SB, POp.val, AOp.val, WOp.val, Lite.bin, intBin, strBin, eqv, eqMany, eq1, AV.asBool, AV.asInt, AV.asNat, AV.asPtr, AV.asStr, resVals, ResV.val, oneOr, wants, skipped, fillAt, putAt, capOf, optNat, bnd, Nat.reduceBEq, reduceIte, Nat.reduceAdd, Nat.reduceLeDiff, Nat.reduceEqDiff, Nat.reduceSub, Nat.reduceMul, Nat.reduceDiv, SOper.again, same, sameBlk, sameCap, Nat.reduceBneDiff, s_draw2, s_pair, k_pair, asunder, SOper.into, Bool.not_false, Bool.not_true, h10]
      · rw [hZl]; simp -implicitDefEqProofs only [↓v_lenS, SB, POp.val, AOp.val, WOp.val, Lite.bin, intBin, strBin, eqv, eqMany, eq1, AV.asBool, AV.asInt, AV.asNat, AV.asPtr, AV.asStr, resVals, ResV.val, oneOr, wants, skipped, fillAt, putAt, capOf, optNat, bnd, Nat.reduceBEq, reduceIte, Nat.reduceAdd, Nat.reduceLeDiff, Nat.reduceEqDiff, Nat.reduceSub, Nat.reduceMul, Nat.reduceDiv, SOper.again, same, sameBlk, sameCap, Nat.reduceBneDiff, s_draw2, s_pair, k_pair, asunder, SOper.into, Bool.not_false, Bool.not_true, h11]
      · simp -implicitDefEqProofs only [↓v_lenS, SB, POp.val, AOp.val, WOp.val, Lite.bin, intBin, strBin, eqv, eqMany, eq1, AV.asBool, AV.asInt, AV.asNat, AV.asPtr, AV.asStr, resVals, ResV.val, oneOr, wants, skipped, fillAt, putAt, capOf, optNat, bnd, Nat.reduceBEq, reduceIte, Nat.reduceAdd, Nat.reduceLeDiff, Nat.reduceEqDiff, Nat.reduceSub, Nat.reduceMul, Nat.reduceDiv, SOper.again, same, sameBlk, sameCap, Nat.reduceBneDiff, s_draw2, s_pair, k_pair, asunder, SOper.into, Bool.not_false, Bool.not_true]
      · simp -implicitDefEqProofs only [↓v_lenS, SB, POp.val, AOp.val, WOp.val, Lite.bin, intBin, strBin, eqv, eqMany, eq1, AV.asBool, AV.asInt, AV.asNat, AV.asPtr, AV.asStr, resVals, ResV.val, oneOr, wants, skipped, fillAt, putAt, capOf, optNat, bnd, Nat.reduceBEq, reduceIte, Nat.reduceAdd, Nat.reduceLeDiff, Nat.reduceEqDiff, Nat.reduceSub, Nat.reduceMul, Nat.reduceDiv, SOper.again, same, sameBlk, sameCap, Nat.reduceBneDiff, s_draw2, s_pair, k_pair, asunder, SOper.into, Bool.not_false, Bool.not_true, h13]
      · exact keep2 _ _ (by rw [h_get, if_neg (by have := low.lt g0; omega)]; exact g0)
      · rw [hZl, set_zeros]
        rintro fr H h7 h8 h9 h10 h11 h12 h13 g0 low
        simp -implicitDefEqProofs only [↓v_lenS, SB, POp.val, AOp.val, WOp.val, Lite.bin, intBin, strBin, eqv, eqMany, eq1, AV.asBool, AV.asInt, AV.asNat, AV.asPtr, AV.asStr, resVals, ResV.val, oneOr, wants, skipped, fillAt, putAt, capOf, optNat, bnd, Nat.reduceBEq, reduceIte, Nat.reduceAdd, Nat.reduceLeDiff, Nat.reduceEqDiff, Nat.reduceSub, Nat.reduceMul, Nat.reduceDiv, SOper.again, same, sameBlk, sameCap, Nat.reduceBneDiff, s_draw2, s_pair, k_pair, asunder, SOper.into, Bool.not_false, Bool.not_true, k_blockE, h13, hw]
        refine hK _ _ ⟨?_, ?_, ?_, ?_, ?_, ?_, ?_, ?_, low⟩
        any_goals simp -implicitDefEqProofs only [↓v_lenS, SB, POp.val, AOp.val, WOp.val, Lite.bin, intBin, strBin, eqv, eqMany, eq1, AV.asBool, AV.asInt, AV.asNat, AV.asPtr, AV.asStr, resVals, ResV.val, oneOr, wants, skipped, fillAt, putAt, capOf, optNat, bnd, Nat.reduceBEq, reduceIte, Nat.reduceAdd, Nat.reduceLeDiff, Nat.reduceEqDiff, Nat.reduceSub, Nat.reduceMul, Nat.reduceDiv, SOper.again, same, sameBlk, sameCap, Nat.reduceBneDiff, s_draw2, s_pair, k_pair, asunder, SOper.into, Bool.not_false, Bool.not_true, h7, h8, h9, h10, h11, h12, remW_succ hi]
        · exact RN.vN _ _
        exact g0
    · rintro fr H K' ⟨h7, h8, h9, h10, h11, h12, h13, g0, low⟩ hKe hKr
      rw [Nat.sub_self] at h13 g0
      rw [hrem] at h12
      have hgt : ¬ ((0 : Nat) : Int) > 0 := by omega
      simp -implicitDefEqProofs only [c27_l1, ↓v_lenS, SB, POp.val, AOp.val, WOp.val, Lite.bin, intBin, strBin, eqv, eqMany, eq1, AV.asBool, AV.asInt, AV.asNat, AV.asPtr, AV.asStr, resVals, ResV.val, oneOr, wants, skipped, fillAt, putAt, capOf, optNat, bnd, Nat.reduceBEq, reduceIte, Nat.reduceAdd, Nat.reduceLeDiff, Nat.reduceEqDiff, Nat.reduceSub, Nat.reduceMul, Nat.reduceDiv, SOper.again, same, sameBlk, sameCap, Nat.reduceBneDiff, s_draw2, s_pair, k_pair, asunder, SOper.into, Bool.not_false, Bool.not_true, h13, hgt, hKe]
      refine fin _ _ _ ⟨rfl, ?_, ?_, ?_, ?_, by simpa using g0⟩
      · simp -implicitDefEqProofs only [↓v_lenS, SB, POp.val, AOp.val, WOp.val, Lite.bin, intBin, strBin, eqv, eqMany, eq1, AV.asBool, AV.asInt, AV.asNat, AV.asPtr, AV.asStr, resVals, ResV.val, oneOr, wants, skipped, fillAt, putAt, capOf, optNat, bnd, Nat.reduceBEq, reduceIte, Nat.reduceAdd, Nat.reduceLeDiff, Nat.reduceEqDiff, Nat.reduceSub, Nat.reduceMul, Nat.reduceDiv, SOper.again, same, sameBlk, sameCap, Nat.reduceBneDiff, s_draw2, s_pair, k_pair, asunder, SOper.into, Bool.not_false, Bool.not_true, h8]
      · simp -implicitDefEqProofs only [↓v_lenS, SB, POp.val, AOp.val, WOp.val, Lite.bin, intBin, strBin, eqv, eqMany, eq1, AV.asBool, AV.asInt, AV.asNat, AV.asPtr, AV.asStr, resVals, ResV.val, oneOr, wants, skipped, fillAt, putAt, capOf, optNat, bnd, Nat.reduceBEq, reduceIte, Nat.reduceAdd, Nat.reduceLeDiff, Nat.reduceEqDiff, Nat.reduceSub, Nat.reduceMul, Nat.reduceDiv, SOper.again, same, sameBlk, sameCap, Nat.reduceBneDiff, s_draw2, s_pair, k_pair, asunder, SOper.into, Bool.not_false, Bool.not_true, h10]
      · simp -implicitDefEqProofs only [↓v_lenS, SB, POp.val, AOp.val, WOp.val, Lite.bin, intBin, strBin, eqv, eqMany, eq1, AV.asBool, AV.asInt, AV.asNat, AV.asPtr, AV.asStr, resVals, ResV.val, oneOr, wants, skipped, fillAt, putAt, capOf, optNat, bnd, Nat.reduceBEq, reduceIte, Nat.reduceAdd, Nat.reduceLeDiff, Nat.reduceEqDiff, Nat.reduceSub, Nat.reduceMul, Nat.reduceDiv, SOper.again, same, sameBlk, sameCap, Nat.reduceBneDiff, s_draw2, s_pair, k_pair, asunder, SOper.into, Bool.not_false, Bool.not_true, h11]
      · simp -implicitDefEqProofs only [↓v_lenS, SB, POp.val, AOp.val, WOp.val, Lite.bin, intBin, strBin, eqv, eqMany, eq1, AV.asBool, AV.asInt, AV.asNat, AV.asPtr, AV.asStr, resVals, ResV.val, oneOr, wants, skipped, fillAt, putAt, capOf, optNat, bnd, Nat.reduceBEq, reduceIte, Nat.reduceAdd, Nat.reduceLeDiff, Nat.reduceEqDiff, Nat.reduceSub, Nat.reduceMul, Nat.reduceDiv, SOper.again, same, sameBlk, sameCap, Nat.reduceBneDiff, s_draw2, s_pair, k_pair, asunder, SOper.into, Bool.not_false, Bool.not_true]; exact h12
    · refine ⟨?_, ?_, ?_, ?_, ?_, ?_, ?_, ?_, ?_⟩
      any_goals simp -implicitDefEqProofs only [↓v_lenS, SB, POp.val, AOp.val, WOp.val, Lite.bin, intBin, strBin, eqv, eqMany, eq1, AV.asBool, AV.asInt, AV.asNat, AV.asPtr, AV.asStr, resVals, ResV.val, oneOr, wants, skipped, fillAt, putAt, capOf, optNat, bnd, Nat.reduceBEq, reduceIte, Nat.reduceAdd, Nat.reduceLeDiff, Nat.reduceEqDiff, Nat.reduceSub, Nat.reduceMul, Nat.reduceDiv, SOper.again, same, sameBlk, sameCap, Nat.reduceBneDiff, s_draw2, s_pair, k_pair, asunder, SOper.into, Bool.not_false, Bool.not_true]
      · rw [remW_zero, limbs_zero]; exact RN.nils
      · rw [Nat.sub_zero]
      · rw [Nat.sub_zero, quoW, List.append_nil]
      · exact HLow.bare.push

theorem quo27_zero (x : Int) {k : Nat} (hx : x.natAbs < 10 ^ (k + 1)) (hk : k ≤ 1000) : Ret P4 27 [.str (decZ x), .str (decZ 0)] (.tuple [.str [], .str [], .bool false]) := by
  have d1 := digits40 x hx (by omega)
  have d2 := digits40 0 (k := 1) (by decide) (by omega)
  have hz0 : limbs 10 (Int.natAbs 0) = [] := limbs_zero 10
  rw [hz0] at d2
  refine Ret.of rfl (code27 _ _) rfl rfl (fun H => by simp -implicitDefEqProofs only [↓v_lenS, SB, POp.val, AOp.val, WOp.val, Lite.bin, intBin, strBin, eqv, eqMany, eq1, AV.asBool, AV.asInt, AV.asNat, AV.asPtr, AV.asStr, resVals, ResV.val, oneOr, wants, skipped, fillAt, putAt, capOf, optNat, bnd, Nat.reduceBEq, reduceIte, Nat.reduceAdd, Nat.reduceLeDiff, Nat.reduceEqDiff, Nat.reduceSub, Nat.reduceMul, Nat.reduceDiv, SOper.again, same, sameBlk, sameCap, Nat.reduceBneDiff, s_draw2, s_pair, k_pair, asunder, SOper.into, Bool.not_false, Bool.not_true]) ((d1.and d2).mono fun n e H => ?_)
  obtain ⟨e1, e2⟩ := e
  generalize decZ x = sx at *
  generalize decZ 0 = sy at *
  generalize limbs 10 x.natAbs = X at *
  have hz : (((0 : Nat) : Int) == 0) = true := rfl
  simp -implicitDefEqProofs only [c27, ↓v_lenS, SB, POp.val, AOp.val, WOp.val, Lite.bin, intBin, strBin, eqv, eqMany, eq1, AV.asBool, AV.asInt, AV.asNat, AV.asPtr, AV.asStr, resVals, ResV.val, oneOr, wants, skipped, fillAt, putAt, capOf, optNat, bnd, Nat.reduceBEq, reduceIte, Nat.reduceAdd, Nat.reduceLeDiff, Nat.reduceEqDiff, Nat.reduceSub, Nat.reduceMul, Nat.reduceDiv, SOper.again, same, sameBlk, sameCap, Nat.reduceBneDiff, s_draw2, s_pair, k_pair, asunder, SOper.into, Bool.not_false, Bool.not_true, CL, BS, vN_nil, e1, e2, hz, Ends, gives_ret]
  exact ⟨_, rfl⟩

end Go.Lite
