/- The row of the law BigSmall, and its card: what its call does, from the interpreter's run; what it lists, tied to the program's text. -/
import Derived.Test.YtpnbhbacpkoddaaDoorQbE
import Derived.Test.YtpnbhbacpkoddaaDoorQbC
import Derived.Test.YtpnbhbacpkoddaaDoorTie
import Derived.Test.YtpnbhbacpkoddaaDoorCards
import Derived.WalkKit
import Derived.ProofKit
import Derived.OpenShut
import Derived.ShutString
import Derived.ChangeOld
import Derived.Below
import Derived.SizedLaws
import Derived.HandedShaped
import Derived.Carry
import Derived.SevenTiedAt

/-
  The law BigTens.
-/
namespace Go.Lite
open Go Go.Proofs
set_option maxRecDepth 100000
set_option linter.unusedSimpArgs false
set_option linter.unusedVariables false

theorem quoR {x y q r : Int} (j k : Nat) (hx : x.natAbs < 10 ^ j) (hy : y.natAbs < 10 ^ k) (hj : j ≤ 200) (hk : k ≤ 200) (hy0 : y ≠ 0) (hq : x.tdiv y = q) (hr : x.tmod y = r) : Ret P4 22 [.str (decZ x), .str (decZ y)] (.tuple [.str (decZ q), .str (decZ r), .bool true]) := by
  have h := quo22 x y (lift_pow hx hj) (lift_pow hy hk) (by omega) hy0
  have h1 : q.natAbs < 10 ^ 200 := by
    rw [← hq, Int.natAbs_tdiv]
    exact Nat.lt_of_le_of_lt (Nat.div_le_self _ _) (lift_pow hx hj)
  have h2 : r.natAbs < 10 ^ 200 := by
    rw [← hr, Int.natAbs_tmod]
    exact Nat.lt_of_le_of_lt (Nat.mod_le _ _) (lift_pow hx hj)
  rw [hq, hr] at h
  unfold opZ at h
  rwa [if_pos h1, if_pos h2] at h

theorem z10 : decZ 10 = [49, 48] := by
  have h1 : decN 1 = [49] := decN_small (by omega)
  have h2 : decN 10 = [49, 48] := dec_ten (n := 1) (d := 0) h1 (by omega) (by omega)
  rw [show (10 : Int) = ((10 : Nat) : Int) from rfl, decZ_nonneg, h2]

theorem law10 (f : Bool) (ks : List Int) (k : Int) (hks : ks.length ≤ 9223372036854775807) : Ret P4 10 [vI f ks, .int .i64 k] (.bool true) := by
  refine Ret.of rfl (code10 _ _) rfl rfl (fun H => by simp -implicitDefEqProofs only [↓v_lenS, SB, POp.val, AOp.val, WOp.val, Lite.bin, intBin, strBin, eqv, eqMany, eq1, AV.asBool, AV.asInt, AV.asNat, AV.asPtr, AV.asStr, resVals, ResV.val, oneOr, wants, skipped, fillAt, putAt, capOf, optNat, bnd, Nat.reduceBEq, reduceIte, Nat.reduceAdd, Nat.reduceLeDiff, Nat.reduceEqDiff, Nat.reduceSub, Nat.reduceMul, Nat.reduceDiv, SOper.again, same, sameBlk, sameCap, Nat.reduceBneDiff, s_draw2, s_pair, k_pair, asunder, SOper.into, Bool.not_false, Bool.not_true, IS]) ?_
  have n0 := num14 f ks 150 false hks (by omega)
  have lx := numZ_lt ks 150 false
  have px := numZ_nonneg ks 150
  generalize numZ ks 150 false = z at *
  have e150 : ((150 : Nat) : Int) = 150 := rfl
  have hw := within_range k (b := 10) (by omega) (by omega)
  have w1 := within15 k 10 (by omega)
  obtain ⟨d, hd⟩ : ∃ d : Nat, within k 10 = (d : Int) := ⟨(within k 10).toNat, by omega⟩
  rw [hd] at w1 hw
  have hd10 : d < 10 := by omega
  have sm := small24 d (by omega)
  rw [decN_small hd10] at sm
  have hdz : decZ (d : Int) = [48 + d] := by rw [decZ_nonneg, decN_small hd10]
  have ld : (d : Int).natAbs < 10 ^ 1 := by rw [Int.natAbs_natCast]; omega
  have l10 : (10 : Int).natAbs < 10 ^ 2 := by decide
  have r7 := mulR (z := z * 10) 150 2 lx l10 (by omega) rfl
  have l7 := mul_lt lx l10
  have r9 := addR (z := z * 10 + d) 152 1 l7 ld (by omega) (by omega) rfl
  have l9 : (z * 10 + d).natAbs < 10 ^ 153 := add_lt l7 (lift_pow ld (by omega))
  have r11 := quoR (q := z) (r := d) 153 2 l9 l10 (by omega) (by omega) (by omega)
    (by rw [Int.tdiv_eq_ediv_of_nonneg (by omega)]; omega) (by rw [Int.tmod_eq_emod_of_nonneg (by omega)]; omega)
  have hz0 := decZ_eq0 z
  rw [z10] at r7 r11
  rw [hdz] at r9 r11
  have hdd : (([48 + d] : List Nat) == [48 + d]) = true := by simp
  have h00 : (([48] : List Nat) == [48]) = true := rfl
  by_cases h0 : z = 0
  · rw [decide_eq_true h0] at hz0
    subst h0
    rw [show (0 : Int) * 10 = 0 from rfl] at r7 r9 r11
    rw [show (0 : Int) + (d : Int) = (d : Int) by omega, hdz] at r9 r11
    rw [z0] at *
    refine (known13.and (n0.and (w1.and (sm.and (r7.and (r9.and r11)))))).mono fun n e H => ?_
    obtain ⟨e0, e1, e2, e3, e4, e5, e6⟩ := e
    rw [e150] at e1
    generalize 48 + d = dd at *
    simp -implicitDefEqProofs only [c10, ↓v_lenS, SB, POp.val, AOp.val, WOp.val, Lite.bin, intBin, strBin, eqv, eqMany, eq1, AV.asBool, AV.asInt, AV.asNat, AV.asPtr, AV.asStr, resVals, ResV.val, oneOr, wants, skipped, fillAt, putAt, capOf, optNat, bnd, Nat.reduceBEq, reduceIte, Nat.reduceAdd, Nat.reduceLeDiff, Nat.reduceEqDiff, Nat.reduceSub, Nat.reduceMul, Nat.reduceDiv, SOper.again, same, sameBlk, sameCap, Nat.reduceBneDiff, s_draw2, s_pair, k_pair, asunder, SOper.into, Bool.not_false, Bool.not_true, CL, IS, e0, e1, e2, e3, e4, e5, e6, hdd, h00, Ends, gives_ret]
    exact ⟨_, rfl⟩
  · rw [decide_eq_false h0] at hz0
    obtain ⟨v, hv⟩ : ∃ v : Nat, z = (v : Int) := ⟨z.toNat, by omega⟩
    have t7 : decZ (z * 10) = decZ z ++ [48] := by
      rw [hv, show ((v : Int) * 10) = ((10 * v + 0 : Nat) : Int) by omega, decZ_nonneg, decZ_nonneg, decN_step (by omega) (by omega)]
    have t9 : decZ (z * 10 + d) = decZ z ++ [48 + d] := by
      rw [hv, show ((v : Int) * 10 + d) = ((10 * v + d : Nat) : Int) by omega, decZ_nonneg, decZ_nonneg, decN_step (by omega) hd10]
    rw [t7] at r7 r9
    rw [t9] at r9 r11
    have hl := decZ_len lx (by omega)
    generalize decZ z = s at *
    have hl1 : s.length + 1 ≤ 4611686018427387904 := by omega
    have x1 : ((s ++ [48]) == (s ++ [48])) = true := by simp
    have x2 : ((s ++ [48 + d]) == (s ++ [48 + d])) = true := by simp
    have x3 : (s == s) = true := by simp
    refine (known13.and (n0.and (w1.and (sm.and (r7.and (r9.and r11)))))).mono fun n e H => ?_
    obtain ⟨e0, e1, e2, e3, e4, e5, e6⟩ := e
    rw [e150] at e1
    generalize 48 + d = dd at *
    simp -implicitDefEqProofs only [c10, ↓v_lenS, SB, POp.val, AOp.val, WOp.val, Lite.bin, intBin, strBin, eqv, eqMany, eq1, AV.asBool, AV.asInt, AV.asNat, AV.asPtr, AV.asStr, resVals, ResV.val, oneOr, wants, skipped, fillAt, putAt, capOf, optNat, bnd, Nat.reduceBEq, reduceIte, Nat.reduceAdd, Nat.reduceLeDiff, Nat.reduceEqDiff, Nat.reduceSub, Nat.reduceMul, Nat.reduceDiv, SOper.again, same, sameBlk, sameCap, Nat.reduceBneDiff, s_draw2, s_pair, k_pair, asunder, SOper.into, Bool.not_false, Bool.not_true, CL, IS, e0, e1, e2, e3, e4, e5, e6, hz0, hl1, x1, x2, x3, hdd, Ends, gives_ret]
    exact ⟨_, rfl⟩

end Go.Lite

/-
  The law BigSmall.
-/
namespace Go.Lite
open Go Go.Proofs
set_option maxRecDepth 100000
set_option linter.unusedSimpArgs false
set_option linter.unusedVariables false

theorem small24z (z : Int) (h : z.natAbs < 1000000000000) : Ret P4 24 [.int .i64 z] (.str (decZ z)) := by
  by_cases hn : z < 0
  · have hs := small24 z.natAbs h
    refine Ret.of rfl (code24 _ _) rfl rfl (fun H => by simp -implicitDefEqProofs only [↓v_lenS, SB, POp.val, AOp.val, WOp.val, Lite.bin, intBin, strBin, eqv, eqMany, eq1, AV.asBool, AV.asInt, AV.asNat, AV.asPtr, AV.asStr, resVals, ResV.val, oneOr, wants, skipped, fillAt, putAt, capOf, optNat, bnd, Nat.reduceBEq, reduceIte, Nat.reduceAdd, Nat.reduceLeDiff, Nat.reduceEqDiff, Nat.reduceSub, Nat.reduceMul, Nat.reduceDiv, SOper.again, same, sameBlk, sameCap, Nat.reduceBneDiff, s_draw2, s_pair, k_pair, asunder, SOper.into, Bool.not_false, Bool.not_true]) (hs.mono fun m e1 H => ?_)
    have hw : IntKind.i64.wrap (0 - z) = (z.natAbs : Int) := by rw [wrap64 (by omega) (by omega)]; omega
    have hl := (decN_len_le (n := z.natAbs) (k := 12) (by omega)).2 (by omega)
    have hl1 : 1 + (decN z.natAbs).length ≤ 4611686018427387904 := by omega
    rw [decZ_minus hn, decZ_nonneg]
    generalize decN z.natAbs = s at *
    simp -implicitDefEqProofs only [c24, ↓v_lenS, SB, POp.val, AOp.val, WOp.val, Lite.bin, intBin, strBin, eqv, eqMany, eq1, AV.asBool, AV.asInt, AV.asNat, AV.asPtr, AV.asStr, resVals, ResV.val, oneOr, wants, skipped, fillAt, putAt, capOf, optNat, bnd, Nat.reduceBEq, reduceIte, Nat.reduceAdd, Nat.reduceLeDiff, Nat.reduceEqDiff, Nat.reduceSub, Nat.reduceMul, Nat.reduceDiv, SOper.again, same, sameBlk, sameCap, Nat.reduceBneDiff, s_draw2, s_pair, k_pair, asunder, SOper.into, Bool.not_false, Bool.not_true, CL, hn, hw, e1, hl1, Ends, gives_ret]
    exact ⟨_, rfl⟩
  · have hs := small24 z.natAbs h
    rw [decZ_plain (by omega), decZ_nonneg]
    rwa [show ((z.natAbs : Nat) : Int) = z by omega] at hs

set_option maxHeartbeats 1000000 in
theorem law12 (k m : Int) : Ret P4 12 [.int .i64 k, .int .i64 m] (.bool true) := by
  refine Ret.of rfl (code12 _ _) rfl rfl (fun H => by simp -implicitDefEqProofs only [↓v_lenS, SB, POp.val, AOp.val, WOp.val, Lite.bin, intBin, strBin, eqv, eqMany, eq1, AV.asBool, AV.asInt, AV.asNat, AV.asPtr, AV.asStr, resVals, ResV.val, oneOr, wants, skipped, fillAt, putAt, capOf, optNat, bnd, Nat.reduceBEq, reduceIte, Nat.reduceAdd, Nat.reduceLeDiff, Nat.reduceEqDiff, Nat.reduceSub, Nat.reduceMul, Nat.reduceDiv, SOper.again, same, sameBlk, sameCap, Nat.reduceBneDiff, s_draw2, s_pair, k_pair, asunder, SOper.into, Bool.not_false, Bool.not_true]) ?_
  have w1 := within15 k 2000001 (by omega)
  have w2 := within15 m 20001 (by omega)
  have b1 := within_range k (b := 2000001) (by omega) (by omega)
  have b2 := within_range m (b := 20001) (by omega) (by omega)
  obtain ⟨a, ha⟩ : ∃ a, a = within k 2000001 - 1000000 := ⟨_, rfl⟩
  obtain ⟨b, hb⟩ : ∃ b, b = within m 20001 - 10000 := ⟨_, rfl⟩
  have x1 : IntKind.i64.wrap (within k 2000001 - 1000000) = a := by rw [wrap64 (by omega) (by omega), ha]
  have x2 : IntKind.i64.wrap (within m 20001 - 10000) = b := by rw [wrap64 (by omega) (by omega), hb]
  have la : a.natAbs ≤ 1000000 := by omega
  have lb : b.natAbs ≤ 10000 := by omega
  generalize within k 2000001 = u at *
  generalize within m 20001 = v at *
  have la7 : a.natAbs < 10 ^ 7 := by omega
  have lb7 : b.natAbs < 10 ^ 7 := by omega
  have lab : (a * b).natAbs ≤ 1000000 * 10000 := by rw [Int.natAbs_mul]; exact Nat.mul_le_mul la lb
  have sA := small24z a (by omega)
  have sB := small24z b (by omega)
  have sS := small24z (a + b) (by omega)
  have sD := small24z (a - b) (by omega)
  have sP := small24z (a * b) (by omega)
  have y1 : IntKind.i64.wrap (a + b) = a + b := wrap64 (by omega) (by omega)
  have y2 : IntKind.i64.wrap (a - b) = a - b := wrap64 (by omega) (by omega)
  have y3 : IntKind.i64.wrap (a * b) = a * b := wrap64 (by omega) (by omega)
  have r9 := addR 7 7 la7 lb7 (by omega) (by omega) rfl
  have r11 := subR 7 7 la7 lb7 (by omega) (by omega) rfl
  have r13 := mulR 7 7 la7 lb7 (by omega) rfl
  have rc := cmpR a b (lift_pow la7 (by omega)) (lift_pow lb7 (by omega))
  have q1 : ((-1 : Int) == -1) = true := rfl
  have q2 : ((0 : Int) == 0) = true := rfl
  have q3 : ((1 : Int) == 1) = true := rfl
  have exx : ∀ s : Str, (s == s) = true := fun s => by simp
  have hb0' : (0 : Int) ≠ 1 := by omega
  by_cases h0 : b = 0
  · have rq := quo22_zero a la7 (by omega)
    have hbe : (b == 0) = true := by simpa using h0
    have hbn : (b != 0) = false := by simp [h0]
    rw [← h0] at rq
    generalize decZ (a + b) = tS at *
    generalize decZ (a - b) = tD at *
    generalize decZ (a * b) = tP at *
    generalize decZ a = ta at *
    generalize decZ b = tb at *
    refine (known13.and (w1.and (w2.and (sA.and (sB.and (sS.and (sD.and (sP.and (r9.and (r11.and (r13.and (rc.and rq)))))))))))).mono fun n e H => ?_
    obtain ⟨e0, e1, e2, e3, e4, e5, e6, e7, e8, e9, e10, e11, e12⟩ := e
    rcases Int.lt_trichotomy a b with hlt | heq | hgt
    · rw [sgn_neg (by omega)] at e11
      have c1 : ¬ a > b := by omega
      simp -implicitDefEqProofs only [c12, ↓v_lenS, SB, POp.val, AOp.val, WOp.val, Lite.bin, intBin, strBin, eqv, eqMany, eq1, AV.asBool, AV.asInt, AV.asNat, AV.asPtr, AV.asStr, resVals, ResV.val, oneOr, wants, skipped, fillAt, putAt, capOf, optNat, bnd, Nat.reduceBEq, reduceIte, Nat.reduceAdd, Nat.reduceLeDiff, Nat.reduceEqDiff, Nat.reduceSub, Nat.reduceMul, Nat.reduceDiv, SOper.again, same, sameBlk, sameCap, Nat.reduceBneDiff, s_draw2, s_pair, k_pair, asunder, SOper.into, Bool.not_false, Bool.not_true, CL, e0, e1, e2, e3, e4, e5, e6, e7, e8, e9, e10, e11, e12, x1, x2, y1, y2, y3, exx, hbe, hbn, hlt, c1, q1, q2, q3, Ends, gives_ret]
      exact ⟨_, rfl⟩
    · rw [show a - b = 0 by omega, show sgn 0 = 0 from rfl] at e11
      have c1 : ¬ a > b := by omega
      have c2 : ¬ a < b := by omega
      simp -implicitDefEqProofs only [c12, ↓v_lenS, SB, POp.val, AOp.val, WOp.val, Lite.bin, intBin, strBin, eqv, eqMany, eq1, AV.asBool, AV.asInt, AV.asNat, AV.asPtr, AV.asStr, resVals, ResV.val, oneOr, wants, skipped, fillAt, putAt, capOf, optNat, bnd, Nat.reduceBEq, reduceIte, Nat.reduceAdd, Nat.reduceLeDiff, Nat.reduceEqDiff, Nat.reduceSub, Nat.reduceMul, Nat.reduceDiv, SOper.again, same, sameBlk, sameCap, Nat.reduceBneDiff, s_draw2, s_pair, k_pair, asunder, SOper.into, Bool.not_false, Bool.not_true, CL, e0, e1, e2, e3, e4, e5, e6, e7, e8, e9, e10, e11, e12, x1, x2, y1, y2, y3, exx, hbe, hbn, c1, c2, q1, q2, q3, Ends, gives_ret]
      exact ⟨_, rfl⟩
    · rw [sgn_pos (by omega)] at e11
      have c1 : a > b := by omega
      have c2 : ¬ a < b := by omega
      simp -implicitDefEqProofs only [c12, ↓v_lenS, SB, POp.val, AOp.val, WOp.val, Lite.bin, intBin, strBin, eqv, eqMany, eq1, AV.asBool, AV.asInt, AV.asNat, AV.asPtr, AV.asStr, resVals, ResV.val, oneOr, wants, skipped, fillAt, putAt, capOf, optNat, bnd, Nat.reduceBEq, reduceIte, Nat.reduceAdd, Nat.reduceLeDiff, Nat.reduceEqDiff, Nat.reduceSub, Nat.reduceMul, Nat.reduceDiv, SOper.again, same, sameBlk, sameCap, Nat.reduceBneDiff, s_draw2, s_pair, k_pair, asunder, SOper.into, Bool.not_false, Bool.not_true, CL, e0, e1, e2, e3, e4, e5, e6, e7, e8, e9, e10, e11, e12, x1, x2, y1, y2, y3, exx, hbe, hbn, c1, c2, q1, q2, q3, Ends, gives_ret]
      exact ⟨_, rfl⟩
  · have rq := quoR 7 7 la7 lb7 (by omega) (by omega) h0 rfl rfl
    have lq : (a.tdiv b).natAbs ≤ a.natAbs := by rw [Int.natAbs_tdiv]; exact Nat.div_le_self _ _
    have lr : (a.tmod b).natAbs ≤ a.natAbs := by rw [Int.natAbs_tmod]; exact Nat.mod_le _ _
    have sQ := small24z (a.tdiv b) (by omega)
    have sR := small24z (a.tmod b) (by omega)
    have y4 : IntKind.i64.wrap (a.tdiv b) = a.tdiv b := wrap64 (by omega) (by omega)
    have y5 : IntKind.i64.wrap (a.tmod b) = a.tmod b := wrap64 (by omega) (by omega)
    have hbe : (b == 0) = false := by simpa using h0
    have hbn : (b != 0) = true := by simpa using h0
    generalize decZ (a + b) = tS at *
    generalize decZ (a - b) = tD at *
    generalize decZ (a * b) = tP at *
    generalize decZ (a.tdiv b) = tQ at *
    generalize decZ (a.tmod b) = tR at *
    generalize decZ a = ta at *
    generalize decZ b = tb at *
    refine (known13.and (w1.and (w2.and (sA.and (sB.and (sS.and (sD.and (sP.and (r9.and (r11.and (r13.and (rc.and (rq.and (sQ.and sR)))))))))))))).mono fun n e H => ?_
    obtain ⟨e0, e1, e2, e3, e4, e5, e6, e7, e8, e9, e10, e11, e12, e13, e14⟩ := e
    rcases Int.lt_trichotomy a b with hlt | heq | hgt
    · rw [sgn_neg (by omega)] at e11
      have c1 : ¬ a > b := by omega
      simp -implicitDefEqProofs only [c12, ↓v_lenS, SB, POp.val, AOp.val, WOp.val, Lite.bin, intBin, strBin, eqv, eqMany, eq1, AV.asBool, AV.asInt, AV.asNat, AV.asPtr, AV.asStr, resVals, ResV.val, oneOr, wants, skipped, fillAt, putAt, capOf, optNat, bnd, Nat.reduceBEq, reduceIte, Nat.reduceAdd, Nat.reduceLeDiff, Nat.reduceEqDiff, Nat.reduceSub, Nat.reduceMul, Nat.reduceDiv, SOper.again, same, sameBlk, sameCap, Nat.reduceBneDiff, s_draw2, s_pair, k_pair, asunder, SOper.into, Bool.not_false, Bool.not_true, CL, e0, e1, e2, e3, e4, e5, e6, e7, e8, e9, e10, e11, e12, e13, e14, x1, x2, y1, y2, y3, y4, y5, exx, hbe, hbn, h0, hlt, c1, q1, q2, q3, Ends, gives_ret]
      exact ⟨_, rfl⟩
    · rw [show a - b = 0 by omega, show sgn 0 = 0 from rfl] at e11
      have c1 : ¬ a > b := by omega
      have c2 : ¬ a < b := by omega
      simp -implicitDefEqProofs only [c12, ↓v_lenS, SB, POp.val, AOp.val, WOp.val, Lite.bin, intBin, strBin, eqv, eqMany, eq1, AV.asBool, AV.asInt, AV.asNat, AV.asPtr, AV.asStr, resVals, ResV.val, oneOr, wants, skipped, fillAt, putAt, capOf, optNat, bnd, Nat.reduceBEq, reduceIte, Nat.reduceAdd, Nat.reduceLeDiff, Nat.reduceEqDiff, Nat.reduceSub, Nat.reduceMul, Nat.reduceDiv, SOper.again, same, sameBlk, sameCap, Nat.reduceBneDiff, s_draw2, s_pair, k_pair, asunder, SOper.into, Bool.not_false, Bool.not_true, CL, e0, e1, e2, e3, e4, e5, e6, e7, e8, e9, e10, e11, e12, e13, e14, x1, x2, y1, y2, y3, y4, y5, exx, hbe, hbn, h0, c1, c2, q1, q2, q3, Ends, gives_ret]
      exact ⟨_, rfl⟩
    · rw [sgn_pos (by omega)] at e11
      have c1 : a > b := by omega
      have c2 : ¬ a < b := by omega
      simp -implicitDefEqProofs only [c12, ↓v_lenS, SB, POp.val, AOp.val, WOp.val, Lite.bin, intBin, strBin, eqv, eqMany, eq1, AV.asBool, AV.asInt, AV.asNat, AV.asPtr, AV.asStr, resVals, ResV.val, oneOr, wants, skipped, fillAt, putAt, capOf, optNat, bnd, Nat.reduceBEq, reduceIte, Nat.reduceAdd, Nat.reduceLeDiff, Nat.reduceEqDiff, Nat.reduceSub, Nat.reduceMul, Nat.reduceDiv, SOper.again, same, sameBlk, sameCap, Nat.reduceBneDiff, s_draw2, s_pair, k_pair, asunder, SOper.into, Bool.not_false, Bool.not_true, CL, e0, e1, e2, e3, e4, e5, e6, e7, e8, e9, e10, e11, e12, e13, e14, x1, x2, y1, y2, y3, y4, y5, exx, hbe, hbn, h0, c1, c2, q1, q2, q3, Ends, gives_ret]
      exact ⟨_, rfl⟩

end Go.Lite

/- The row of the law BigSmall, and its card: what its call does, from the interpreter's run; what it lists, tied to the program's text. -/
namespace Go.Proofs.YtpnbhbacpkoddaaDoor.bigSmall
open Go.ChangeShapes Go.WideShapes Go.ChangeAt Go.RowKit Go.Lite
open Go.ChangeMaps (open_string shut_string)
set_option linter.unusedVariables false
set_option maxRecDepth 100000
theorem own : ownKnob Tryd.prog.godebug = none := by kernel_rfl
theorem laid_met (os : Os) : laidMet Tryd.prog Rows.bigSmallRow.laid ((laidWorld Tryd.prog os [(2, Rows.laid_math_bits_deBruijn32tab), (3, Rows.laid_math_bits_deBruijn64tab), (0, Rows.laid_internal_strconv_uint64pow10)]).forCall (fun _ _ => 0) ⟨#[], #[.int .i64 0, .int .i64 0], []⟩).memory :=
  laidMet_of_run' 8 (by kernel_rfl) (by kernel_rfl)
theorem lifted (os : Os) (started : os.Started) (H : Type) (enc : TypeId × Value → H) :
    ReturnsInHanded {} Tryd.checked os 12 .any (fun w args => (Rows.bigSmallSpec.pre enc Tryd.prog Tryd.f12 Rows.bigSmallRow.domain false w args ∧ laidMet Tryd.prog Rows.bigSmallRow.laid w) ∧ sizedMet enc Tryd.prog Tryd.f12 (OpenSpec.ofChange Rows.bigSmallSpec) false w args) (Rows.bigSmallSpec.post enc Tryd.prog Tryd.f12 false true false false) := by
  refine returns_laid (C := Tryd.checked) (X := fun w _ => laidMet Tryd.prog Rows.bigSmallRow.laid w) own started (by kernel_rfl) Tryd.func12
    (ChangeSpec.witness_at (enc := enc) (C := Tryd.checked) (os := os) (X := fun w _ => laidMet Tryd.prog Rows.bigSmallRow.laid w) false (laidWorld Tryd.prog os [(2, Rows.laid_math_bits_deBruijn32tab), (3, Rows.laid_math_bits_deBruijn64tab), (0, Rows.laid_internal_strconv_uint64pow10)]) #[.int .i64 0, .int .i64 0] 8 rfl (by kernel_rfl) (by kernel_rfl) (by kernel_rfl) (by kernel_rfl) (by kernel_rfl) (laid_met os)) ?_
  intro W base args ds gs before hval0 hW hcnd hsz0 hsh hlx _
  have hsz : (DataW.weightsEach Tryd.prog (Tryd.f12.params.toList ++ Rows.bigSmallSpec.plain.varTypes Tryd.prog) (ds ++ gs)).all (· ≤ reachBytes) = true := hsz0
  have hval : ∀ (j : Nat) t v, Tryd.f12.params[j]? = some t → args[j]? = some v → Value.okWide Tryd.prog W .any base t v := hval0
  have hW' := hW
  obtain ⟨p, q, hA0, hV, rfl, hfz, hnd⟩ := hW
  have hA : DataW.TrodAll enc Tryd.prog W 0 (fun _ => true) true Tryd.f12.params.toList args.toList ds p := hA0
  rw [Tryd.params12] at hA hval hsz
  obtain ⟨v0, vs0, d0, ds0, p0, q0, hargs, rfl, rfl, h0, r0⟩ := trodAll_cons hA
  obtain ⟨v1, vs1, d1, ds1, p1, q1, rfl, rfl, rfl, h1, r1⟩ := trodAll_cons r0
  obtain ⟨rfl, rfl, rfl⟩ := trodAll_nil r1
  obtain rfl : args = #[v0, v1] := by cases args; simp_all
  obtain ⟨rfl, rfl⟩ := trodVars_none hV
  obtain ⟨a0, rfl, rfl, rfl, w0⟩ := open_int Tryd.underlying3 (hval 0 3 v0 rfl rfl) h0
  obtain ⟨a1, rfl, rfl, rfl, w1⟩ := open_int Tryd.underlying3 (hval 1 3 v1 rfl rfl) h1
  refine (calls_of_ret hsh (tab_of_laid hlx) (law12 a0 a1) (by simp only [VRels]; exact ⟨_, _, rfl, rfl, _, _, rfl, rfl, rfl⟩)).mono fun e W' ⟨he, bel⟩ => ?_
  subst he
  exact ⟨_, rfl, _, _, _, [], _, [], hW', trodAll_mk1 (shut_bool Tryd.underlying4 _), (trodAll_cons_mk (shut_int Tryd.underlying3 w0) (trodAll_cons_mk (shut_int Tryd.underlying3 w1) trodAll_mk0)), rfl, bel.frame _, fun h => by cases h⟩
theorem over : Rows.bigSmallRow.holds Tryd.pinned (OpenSpec.ofChange Rows.bigSmallSpec) :=
  OpenClaim.holds_of_wide 12 Tryd.f12 rfl rfl rfl rfl rfl rfl rfl ⟨rfl, rfl, rfl, rfl, rfl⟩ rfl rfl rfl rfl rfl (by kernel_rfl) Tryd.func12 (by kernel_rfl)
    (of_decide_eq_true (by kernel_rfl)) (by unfold Func.isWrapper; first | (rw [if_pos (by decide +kernel)]; kernel_rfl) | (rw [if_neg (by decide +kernel)]; exact ⟨rfl, rfl⟩))
    (fun os started H enc _ => lifted os started H enc)
theorem card : Rows.BigSmallCardSaid :=
  Claim7.holds_tied_plain_at .later [] [.data, .data, .data] true (true, "3f6c65230efcc366f875a5b532b9a48e131542a205115071931acd097d8d462f") false over (fun _ h => by cases h) (by kernel_rfl) (fun _ h => by cases h) bigSmall_row_tie rfl ⟨rfl, rfl⟩ (by kernel_rfl) (by first | rfl | decide)
    (fun f fn h1 h2 => by
      obtain rfl : f = 12 := Option.some.inj (h1.symm.trans (by kernel_rfl))
      obtain rfl : fn = Tryd.f12 := Option.some.inj (h2.symm.trans Tryd.func12)
      refine ⟨by kernel_rfl, fun j t hj => ?_⟩
      rw [Tryd.params12] at hj
      match j, hj with
      | 0, hj =>
        obtain rfl : t = 3 := by simpa using hj.symm
        exact (by kernel_rfl : Tryd.pinned.checked.prog.wantsStandIn 3 = false)
      | 1, hj =>
        obtain rfl : t = 3 := by simpa using hj.symm
        exact (by kernel_rfl : Tryd.pinned.checked.prog.wantsStandIn 3 = false)
      | j + 2, hj => simp at hj)
    (by kernel_rfl)
#print axioms card
end Go.Proofs.YtpnbhbacpkoddaaDoor.bigSmall
namespace Go.Proofs.YtpnbhbacpkoddaaDoor
/-- The card, under a short name, for the claim. -/
theorem bigSmall_holds : Rows.BigSmallCardSaid := bigSmall.card
end Go.Proofs.YtpnbhbacpkoddaaDoor
