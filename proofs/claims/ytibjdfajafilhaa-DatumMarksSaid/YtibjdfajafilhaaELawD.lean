/-
  DatumAll by the interpreter.
-/
import Derived.Test.YtibjdfajafilhaaELawC
namespace Go.Lite
open Go Go.Proofs
set_option maxRecDepth 100000
set_option linter.unusedSimpArgs false
set_option linter.unusedVariables false

theorem D.places_refl : ∀ d : D, d.places d = true := D.indA fun k t ms l a ih => by
  rw [D.places, D.placess_eq, zipAll_refl l ih, D.same_refl]
  simp

theorem vInts_one : vInts [1] = .lst 1 1 false [.int .i64 1] := rfl

set_option maxHeartbeats 4000000 in
/-- DatumAll -/
theorem law6 (l m : List Raw) (ns : List Int) (raw : List Nat) (hl : l.length ≤ 9223372036854775807) (hf : Raw.fits l) (hm : m.length ≤ 9223372036854775807) (hfm : Raw.fits m) :
    Ret P2 6 [vRaws l, vRaws m, vIntsF false ns, .str raw] (.bool true) := by
  have hargs : ∀ H : Heap, mapHM shutV [vRaws l, vRaws m, vIntsF false ns, .str raw] H = some ([vRaws l, vRaws m, vIntsF false ns, .str raw], H) := fun H => by simp -implicitDefEqProofs only [↓v_lenS, SB, POp.val, AOp.val, WOp.val, Lite.bin, intBin, strBin, eqv, eqMany, eq1, AV.asBool, AV.asInt, AV.asNat, AV.asPtr, AV.asStr, resVals, ResV.val, oneOr, wants, skipped, fillAt, putAt, capOf, optNat, bnd, Nat.reduceBEq, reduceIte, Nat.reduceAdd, Nat.reduceLeDiff, Nat.reduceEqDiff, Nat.reduceSub, Nat.reduceMul, Nat.reduceDiv, SOper.again, same, sameBlk, sameCap, Nat.reduceBneDiff, shutV_vRaws, shutV_vIntsF]
  by_cases hfew : sizeR 21 l ≤ 60 ∧ sizeR 21 m ≤ 60 ∧ ¬ (raw.length : Int) > 60
  · obtain ⟨hfew, hfewm, h60⟩ := hfew
    have hc : Raw.cnts l ≤ 60 := by rw [← few_cnt 21 l hfew]; exact hfew
    have hcm : Raw.cnts m ≤ 60 := by rw [← few_cnt 21 m hfewm]; exact hfewm
    obtain ⟨q1, q2, q3, q4⟩ := list_facts hc
    obtain ⟨s1, s2, s3, s4⟩ := list_facts hcm
    have hle := marked_le ns (.mk 4 [] [] (Raw.makes l) 0) 0
    obtain ⟨m1, m2, m3, m4⟩ := marked_facts ns (.mk 4 [] [] (Raw.makes l) 0) 0
    have mk1 := marked16 false ns (.mk 4 [] [] (Raw.makes l) 0) 0 (by omega)
    have ha := all13 l (by omega)
    have hb := all13 m (by omega)
    have m3 := m3 q1
    have m4 := m4 q4
    rw [← m1] at q3
    generalize hds : Raw.makes l = ds at *
    generalize hR : (D.mk 4 [] [] ds 0).marked ns 0 = R at *
    obtain ⟨a, at1⟩ := R
    simp only [] at m1 m2 m3 m4 q3 mk1 hle
    obtain ⟨n1, n2, n3, n4⟩ := marked_facts ns (.mk 4 [] [] (Raw.makes m) 0) at1
    have mk2 := marked16 false ns (.mk 4 [] [] (Raw.makes m) 0) at1 (by omega)
    generalize hes : Raw.makes m = es at *
    generalize hS : (D.mk 4 [] [] es 0).marked ns at1 = S at *
    obtain ⟨b, at2⟩ := S
    simp only [] at mk2
    obtain ⟨p1, p2, p3, p4, p5, p6⟩ := plain_facts a
    have p5 := p5 m4
    have c1 := (text14 a m3 (by omega)).and ((text24 a (by omega)).and ((size15 a (by omega)).and ((size26 a (by omega)).and ((plain18 a m4).and ((plain23 a m4).and ((same21 a (D.small.fit _ m4) b).and ((same25 a (D.small.fit _ m4) b).and ((same21 a (D.small.fit _ m4) a).and ((places19 a.plain (D.small.fit _ p5) a.plain).and
      ((is22 a raw).and ((is27 a raw).and ((is22 (.mk 3 raw [1] [] 0) raw).and (is22 (.mk 2 raw [] [] 0) raw)))))))))))))
    rw [D.same_refl, D.places_refl] at c1
    refine Ret.of rfl (code6 _ _) rfl rfl hargs ?_
    refine (known11.and ((few12 l hl hf).and ((few12 m hm hfm).and (ha.and (hb.and (mk1.and (mk2.and c1))))))).mono fun n hn H => ?_
    obtain ⟨e11, e12, e12', e13, e13', em1, em2, ta, ta', sa, sa', pa, pa', sab, sab', saa, pl, ia, ia', i1, i2⟩ := hn
    rw [decide_eq_true hfew] at e12
    rw [decide_eq_true hfewm] at e12'
    have low0 : HLow ((H.bare.push (.row [.int .i64 0] 0 false (some 3))).put 0 (.row [.int .i64 0] 0 false (some 3))) := HLow.bare.push.put (by simp [h_n, h_nbare])
    have em1 := em1 ((H.bare.push (.row [.int .i64 0] 0 false (some 3))).put 0 (.row [.int .i64 0] 0 false (some 3))) 0 (some 3) low0 (by rw [h_gput, if_pos rfl]; rfl)
    have b1 : ((3 : Int) == 3 && raw == raw) = true := by simp
    have b2 : ((2 : Int) == 3 && raw == raw) = false := by simp
    simp only [b1, b2] at i1 i2
    generalize a.plain = p at *
    generalize a.same b = sm at *
    obtain ⟨ka, tx, ma, la, pa0⟩ := a
    obtain ⟨kb, tb, mb, lb, pb0⟩ := b
    obtain ⟨kp, tp', mp, lp, pp'⟩ := p
    simp only [] at ia ia'
    generalize (ka == 3 && tx == raw) = isa at *
    generalize (D.mk ka tx ma la pa0).txt = T at *
    generalize (D.mk ka tx ma la pa0).size = Z at *
    simp only [D.v_mk, vInts_nil, vInts_one] at em1 em2 ta ta' sa sa' pa pa' sab sab' saa pl ia ia' i1 i2
    simp only [vData_nil] at i1 i2
    simp -implicitDefEqProofs only [c6, ↓v_lenS, SB, POp.val, AOp.val, WOp.val, Lite.bin, intBin, strBin, eqv, eqMany, eq1, AV.asBool, AV.asInt, AV.asNat, AV.asPtr, AV.asStr, resVals, ResV.val, oneOr, wants, skipped, fillAt, putAt, capOf, optNat, bnd, Nat.reduceBEq, reduceIte, Nat.reduceAdd, Nat.reduceLeDiff, Nat.reduceEqDiff, Nat.reduceSub, Nat.reduceMul, Nat.reduceDiv, SOper.again, same, sameBlk, sameCap, Nat.reduceBneDiff, CL, e11, e12, e12', shutV_vRaws, e13, e13', DS, softV_some shutV_vIntsF, h60]
    refine gives_call em1 ?_
    rintro v H1 ⟨rfl, g0, kp0⟩
    have low1 := kp0.low low0
    have nH1 := low1.lt g0
    let X : Obj := .row [.int .i64 0, .str [], .nils, .nils, .int .i64 0] 0 false (some 30)
    let Y : Obj := .row [.int .i64 ka, .str tx, vInts ma, vData la, .int .i64 pa0] 0 false (some 30)
    have low2 : HLow ((H1.push X).put H1.n Y) := low1.push.put (by simp [h_n])
    have z0 : ¬ 0 = H1.n := by omega
    have em2 := em2 ((H1.push X).put H1.n Y) 0 (some 3) low2 (by rw [h_gput, if_neg z0, h_get, if_neg z0]; exact g0)
    have gY : ((H1.push X).put H1.n Y).t.get H1.n = some Y := by rw [h_gput, if_pos rfl]
    simp -implicitDefEqProofs only [↓v_lenS, SB, POp.val, AOp.val, WOp.val, Lite.bin, intBin, strBin, eqv, eqMany, eq1, AV.asBool, AV.asInt, AV.asNat, AV.asPtr, AV.asStr, resVals, ResV.val, oneOr, wants, skipped, fillAt, putAt, capOf, optNat, bnd, Nat.reduceBEq, reduceIte, Nat.reduceAdd, Nat.reduceLeDiff, Nat.reduceEqDiff, Nat.reduceSub, Nat.reduceMul, Nat.reduceDiv, SOper.again, same, sameBlk, sameCap, Nat.reduceBneDiff, CL, DS, shutV_vRaws, e13', softV_some shutV_vIntsF]
    refine gives_call em2 ?_
    rintro v H2 ⟨rfl, g0', kp2⟩
    have low3 := kp2.low low2
    have gY2 := kp2.get H1.n Y gY (only_row (by omega))
    have nH2 := low3.lt gY2
    have y1 : ¬ H1.n = H2.n := by omega
    have y2 : ¬ H1.n = H2.n + 1 := by omega
    have y3 : ¬ H1.n = H2.n + 1 + 1 := by omega
    have y4 : ¬ H1.n = H2.n + 2 := by omega
    have bb : ∀ x : Bool, (x == x) = true := fun x => by cases x <;> rfl
    simp -implicitDefEqProofs only [X, Y] at gY2
    simp -implicitDefEqProofs only [↓v_lenS, SB, POp.val, AOp.val, WOp.val, Lite.bin, intBin, strBin, eqv, eqMany, eq1, AV.asBool, AV.asInt, AV.asNat, AV.asPtr, AV.asStr, resVals, ResV.val, oneOr, wants, skipped, fillAt, putAt, capOf, optNat, bnd, Nat.reduceBEq, reduceIte, Nat.reduceAdd, Nat.reduceLeDiff, Nat.reduceEqDiff, Nat.reduceSub, Nat.reduceMul, Nat.reduceDiv, SOper.again, same, sameBlk, sameCap, Nat.reduceBneDiff, CL, DS, gY2, y1, y2, y3, y4, ta, ta', sa, sa', pa, pa', sab, sab', saa, pl, ia, ia', i1, i2, bb, Ends, gives_ret]
    exact ⟨_, rfl⟩
  · refine Ret.of rfl (code6 _ _) rfl rfl hargs ?_
    refine (known11.and ((few12 l hl hf).and (few12 m hm hfm))).mono fun n hn H => ?_
    obtain ⟨e11, e12, e12'⟩ := hn
    by_cases h1 : sizeR 21 l ≤ 60
    · rw [decide_eq_true h1] at e12
      by_cases h2 : sizeR 21 m ≤ 60
      · rw [decide_eq_true h2] at e12'
        have h60 : (raw.length : Int) > 60 := by
          rcases Decidable.em ((raw.length : Int) > 60) with h | h
          · exact h
          · exact absurd ⟨h1, h2, h⟩ hfew
        simp -implicitDefEqProofs only [c6, ↓v_lenS, SB, POp.val, AOp.val, WOp.val, Lite.bin, intBin, strBin, eqv, eqMany, eq1, AV.asBool, AV.asInt, AV.asNat, AV.asPtr, AV.asStr, resVals, ResV.val, oneOr, wants, skipped, fillAt, putAt, capOf, optNat, bnd, Nat.reduceBEq, reduceIte, Nat.reduceAdd, Nat.reduceLeDiff, Nat.reduceEqDiff, Nat.reduceSub, Nat.reduceMul, Nat.reduceDiv, SOper.again, same, sameBlk, sameCap, Nat.reduceBneDiff, CL, e11, e12, e12', shutV_vRaws, Ends, gives_ret, h60]
        exact ⟨_, rfl⟩
      · rw [decide_eq_false h2] at e12'
        simp -implicitDefEqProofs only [c6, ↓v_lenS, SB, POp.val, AOp.val, WOp.val, Lite.bin, intBin, strBin, eqv, eqMany, eq1, AV.asBool, AV.asInt, AV.asNat, AV.asPtr, AV.asStr, resVals, ResV.val, oneOr, wants, skipped, fillAt, putAt, capOf, optNat, bnd, Nat.reduceBEq, reduceIte, Nat.reduceAdd, Nat.reduceLeDiff, Nat.reduceEqDiff, Nat.reduceSub, Nat.reduceMul, Nat.reduceDiv, SOper.again, same, sameBlk, sameCap, Nat.reduceBneDiff, CL, e11, e12, e12', shutV_vRaws, Ends, gives_ret]
        exact ⟨_, rfl⟩
    · rw [decide_eq_false h1] at e12
      simp -implicitDefEqProofs only [c6, ↓v_lenS, SB, POp.val, AOp.val, WOp.val, Lite.bin, intBin, strBin, eqv, eqMany, eq1, AV.asBool, AV.asInt, AV.asNat, AV.asPtr, AV.asStr, resVals, ResV.val, oneOr, wants, skipped, fillAt, putAt, capOf, optNat, bnd, Nat.reduceBEq, reduceIte, Nat.reduceAdd, Nat.reduceLeDiff, Nat.reduceEqDiff, Nat.reduceSub, Nat.reduceMul, Nat.reduceDiv, SOper.again, same, sameBlk, sameCap, Nat.reduceBneDiff, CL, e11, e12, e12', shutV_vRaws, Ends, gives_ret]
      exact ⟨_, rfl⟩

end Go.Lite
