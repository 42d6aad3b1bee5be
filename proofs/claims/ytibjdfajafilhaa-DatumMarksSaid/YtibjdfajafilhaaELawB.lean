/-
  DatumPlain by the interpreter.
-/
import Derived.Test.YtibjdfajafilhaaEFacts
namespace Go.Lite
open Go Go.Proofs
set_option maxRecDepth 100000
set_option linter.unusedSimpArgs false
set_option linter.unusedVariables false

theorem zero_lt_succ_ne {n : Nat} (h : 0 < n) : ¬ 0 = n := by omega

/-- DatumPlain -/
theorem law8 (l : List Raw) (ns : List Int) (hl : l.length ≤ 9223372036854775807) (hf : Raw.fits l) : Ret P2 8 [vRaws l, vIntsF false ns] (.bool true) := by
  by_cases hfew : sizeR 21 l ≤ 60
  · have hc : Raw.cnts l ≤ 60 := by rw [← few_cnt 21 l hfew]; exact hfew
    obtain ⟨q1, q2, q3, q4⟩ := list_facts hc
    obtain ⟨m1, m2, m3, m4⟩ := marked_facts ns (.mk 4 [] [] (Raw.makes l) 0) 0
    have mk := marked16 false ns (.mk 4 [] [] (Raw.makes l) 0) 0 (by omega)
    have ha := all13 l (by omega)
    have m3 := m3 q1
    have m4 := m4 q4
    rw [← m1] at q3
    rw [← m2] at q2
    generalize Raw.makes l = ds at *
    generalize hR : (D.mk 4 [] [] ds 0).marked ns 0 = R at *
    obtain ⟨a, at'⟩ := R
    simp only [] at m3 m4 q2 q3 mk
    obtain ⟨p1, p2, p3, p4, p5, p6⟩ := plain_facts a
    have p4 := p4 m3
    have p5 := p5 m4
    have c1 := (text14 a m3 (by omega)).and ((text14 a.plain p4 (by rw [p1]; omega)).and ((size15 a (by omega)).and ((size15 a.plain (by rw [p2]; omega)).and ((plain18 a m4).and ((plain18 a.plain p5).and ((same21 a.plain (D.small.fit _ p5) a.plain).and (bare28 a.plain (D.small.fit _ p5))))))))
    rw [p1, p2, p6, D.same_refl, p3] at c1
    refine Ret.of rfl (code8 _ _) rfl rfl (fun H => by simp -implicitDefEqProofs only [↓v_lenS, SB, POp.val, AOp.val, WOp.val, Lite.bin, intBin, strBin, eqv, eqMany, eq1, AV.asBool, AV.asInt, AV.asNat, AV.asPtr, AV.asStr, resVals, ResV.val, oneOr, wants, skipped, fillAt, putAt, capOf, optNat, bnd, Nat.reduceBEq, reduceIte, Nat.reduceAdd, Nat.reduceLeDiff, Nat.reduceEqDiff, Nat.reduceSub, Nat.reduceMul, Nat.reduceDiv, SOper.again, same, sameBlk, sameCap, Nat.reduceBneDiff, shutV_vRaws, shutV_vIntsF]) ?_
    refine (known11.and ((few12 l hl hf).and (ha.and (mk.and c1)))).mono fun n hn H => ?_
    obtain ⟨e11, e12, e13, em, ta, tp, sa, sp, pa, pp, sm, br⟩ := hn
    rw [decide_eq_true hfew] at e12
    have em := em (((H.bare.push (.row [.int .i64 0] 0 false (some 3))).put 0 (.row [.int .i64 0] 0 false (some 3)))) 0 (some 3) (HLow.bare.push.put (by simp [h_n, h_nbare])) (by rw [h_gput, if_pos rfl]; rfl)
    have low0 : HLow ((H.bare.push (.row [.int .i64 0] 0 false (some 3))).put 0 (.row [.int .i64 0] 0 false (some 3))) := HLow.bare.push.put (by simp [h_n, h_nbare])
    generalize a.plain = p at *
    obtain ⟨ka, tx, ma, la, pa'⟩ := a
    obtain ⟨kp, tp', mp, lp, pp'⟩ := p
    generalize (D.mk ka tx ma la pa').txt = T at *
    generalize (D.mk ka tx ma la pa').size = Z at *
    simp only [D.v_mk, vInts_nil] at em ta tp sa sp pa pp sm br
    simp -implicitDefEqProofs only [c8, ↓v_lenS, SB, POp.val, AOp.val, WOp.val, Lite.bin, intBin, strBin, eqv, eqMany, eq1, AV.asBool, AV.asInt, AV.asNat, AV.asPtr, AV.asStr, resVals, ResV.val, oneOr, wants, skipped, fillAt, putAt, capOf, optNat, bnd, Nat.reduceBEq, reduceIte, Nat.reduceAdd, Nat.reduceLeDiff, Nat.reduceEqDiff, Nat.reduceSub, Nat.reduceMul, Nat.reduceDiv, SOper.again, same, sameBlk, sameCap, Nat.reduceBneDiff, CL, e11, e12, shutV_vRaws, e13, DS, softV_some shutV_vIntsF]
    refine gives_call em ?_
    rintro v H1 ⟨rfl, g0, kp0⟩
    have low1 := kp0.low low0
    have n1 := low1.lt g0
    simp -implicitDefEqProofs only [↓v_lenS, SB, POp.val, AOp.val, WOp.val, Lite.bin, intBin, strBin, eqv, eqMany, eq1, AV.asBool, AV.asInt, AV.asNat, AV.asPtr, AV.asStr, resVals, ResV.val, oneOr, wants, skipped, fillAt, putAt, capOf, optNat, bnd, Nat.reduceBEq, reduceIte, Nat.reduceAdd, Nat.reduceLeDiff, Nat.reduceEqDiff, Nat.reduceSub, Nat.reduceMul, Nat.reduceDiv, SOper.again, same, sameBlk, sameCap, Nat.reduceBneDiff, CL, DS, e11, e12, pa, ta, tp, sa, sp, pp, sm, br, Ends, gives_ret]
    exact ⟨_, rfl⟩
  · refine Ret.of rfl (code8 _ _) rfl rfl (fun H => by simp -implicitDefEqProofs only [↓v_lenS, SB, POp.val, AOp.val, WOp.val, Lite.bin, intBin, strBin, eqv, eqMany, eq1, AV.asBool, AV.asInt, AV.asNat, AV.asPtr, AV.asStr, resVals, ResV.val, oneOr, wants, skipped, fillAt, putAt, capOf, optNat, bnd, Nat.reduceBEq, reduceIte, Nat.reduceAdd, Nat.reduceLeDiff, Nat.reduceEqDiff, Nat.reduceSub, Nat.reduceMul, Nat.reduceDiv, SOper.again, same, sameBlk, sameCap, Nat.reduceBneDiff, shutV_vRaws, shutV_vIntsF]) ?_
    refine (known11.and (few12 l hl hf)).mono fun n hn H => ?_
    obtain ⟨e11, e12⟩ := hn
    rw [decide_eq_false hfew] at e12
    simp -implicitDefEqProofs only [c8, ↓v_lenS, SB, POp.val, AOp.val, WOp.val, Lite.bin, intBin, strBin, eqv, eqMany, eq1, AV.asBool, AV.asInt, AV.asNat, AV.asPtr, AV.asStr, resVals, ResV.val, oneOr, wants, skipped, fillAt, putAt, capOf, optNat, bnd, Nat.reduceBEq, reduceIte, Nat.reduceAdd, Nat.reduceLeDiff, Nat.reduceEqDiff, Nat.reduceSub, Nat.reduceMul, Nat.reduceDiv, SOper.again, same, sameBlk, sameCap, Nat.reduceBneDiff, CL, e11, e12, shutV_vRaws, Ends, gives_ret]
    exact ⟨_, rfl⟩

end Go.Lite
