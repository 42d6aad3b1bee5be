/-
  What is plain: datum.Plain, the document's; copies; known.
-/
import Derived.Test.YtibjdfajafilhaaEMark
namespace Go.Lite
open Go Go.Proofs
set_option maxRecDepth 100000
set_option linter.unusedSimpArgs false
set_option linter.unusedVariables false

mutual
/-- a datum without marks -/
def D.plain : D → D
  | .mk k t _ l a => .mk k t [] (D.plains l) a
def D.plains : List D → List D
  | [] => []
  | d :: ds => d.plain :: D.plains ds
end

theorem plains_map (l : List D) : D.plains l = l.map D.plain := by
  induction l with
  | nil => rfl
  | cons r l ih => rw [D.plains, ih]; rfl

theorem plains_take {l : List D} {i : Nat} {r : D} (h : l[i]? = some r) : D.plains (l.take (i + 1)) = D.plains (l.take i) ++ [r.plain] := by
  rw [plains_map, plains_map, List.take_add_one, h]; simp

theorem plains_len (l : List D) : (D.plains l).length = l.length := by rw [plains_map]; simp

theorem D.cells_flat (d : D) : d.cells.all AV.flat = true := by
  cases d; rw [D.cells_mk]; exact five_flat

mutual
/-- lists of no greater length than the laws reach -/
def D.small : D → Prop
  | .mk _ _ ms l _ => ms.length ≤ 1048576 ∧ l.length ≤ 1048576 ∧ D.smalls l
def D.smalls : List D → Prop
  | [] => True
  | d :: ds => d.small ∧ D.smalls ds
end

theorem D.smalls_iff (l : List D) : D.smalls l ↔ ∀ d ∈ l, d.small := by
  induction l with
  | nil => simp [D.smalls]
  | cons d l ih => simp [D.smalls, ih]

theorem D.small.fit : ∀ d : D, d.small → d.fit := D.indA fun k t ms l a ih h => by
  rw [D.small, D.smalls_iff] at h
  rw [D.fit, D.fits_iff]
  exact ⟨by omega, by omega, fun d hd => ih d hd (h.2.2 d hd)⟩

theorem plain18 : ∀ d : D, d.small → Ret P2 18 [d.v] d.plain.v := D.indA fun k t ms l a ih hsm => by
  rw [D.small, D.smalls_iff] at hsm
  obtain ⟨f1, f2, f3⟩ := hsm
  rw [D.plain, D.v_mk, D.v_mk, vInts_nil]
  refine Ret.of rfl (code18 _ _) rfl rfl (fun H => by simp -implicitDefEqProofs only [↓v_lenS, SB, POp.val, AOp.val, WOp.val, Lite.bin, intBin, strBin, eqv, eqMany, eq1, AV.asBool, AV.asInt, AV.asNat, AV.asPtr, AV.asStr, resVals, ResV.val, oneOr, wants, skipped, fillAt, putAt, capOf, optNat, bnd, Nat.reduceBEq, reduceIte, Nat.reduceAdd, Nat.reduceLeDiff, Nat.reduceEqDiff, Nat.reduceSub, Nat.reduceMul, Nat.reduceDiv, SOper.again, same, sameBlk, sameCap, Nat.reduceBneDiff, s_draw2, s_pair, k_pair, asunder, SOper.into, Bool.not_false, Bool.not_true, DS]) ?_
  refine ((Ev.all l fun d hd => ih d hd (f3 d hd)).and (Ev.ge (l.length + 1))).mono fun n hn H => ?_
  obtain ⟨ihn, hge⟩ := hn
  obtain ⟨n, rfl⟩ : ∃ m, n = m + 1 := ⟨n - 1, by omega⟩
  simp -implicitDefEqProofs only [c18, ↓v_lenS, SB, POp.val, AOp.val, WOp.val, Lite.bin, intBin, strBin, eqv, eqMany, eq1, AV.asBool, AV.asInt, AV.asNat, AV.asPtr, AV.asStr, resVals, ResV.val, oneOr, wants, skipped, fillAt, putAt, capOf, optNat, bnd, Nat.reduceBEq, reduceIte, Nat.reduceAdd, Nat.reduceLeDiff, Nat.reduceEqDiff, Nat.reduceSub, Nat.reduceMul, Nat.reduceDiv, SOper.again, same, sameBlk, sameCap, Nat.reduceBneDiff, s_draw2, s_pair, k_pair, asunder, SOper.into, Bool.not_false, Bool.not_true, CL, DS]
  refine loop_rounds l.length (fun i fr H => ∃ v, Acc 0 H 30 5 i ((D.plains (l.take i)).flatMap D.cells) v ∧ HLow H ∧ fr 1 = .ptr (.new 0) 0 ∧ fr 2 = .ptr (.new 1) 0 ∧ fr 3 = v ∧ fr 7 = vData l ∧ fr 8 = .int .i64 l.length ∧ fr 9 = .int .i64 i ∧
      H.t.get 0 = some (.row [.int .i64 k, .str t, vInts ms, vData l, .int .i64 a] 0 false (some 30)) ∧ H.t.get 1 = some (.row [.int .i64 0, .str [], .nils, .nils, .int .i64 0] 0 false (some 30))) ?_ ?_ _ 0 _ _ (by omega) (by omega) ?_
  · rintro i fr H K' hi ⟨v, acc, low, h1, h2, h3, h7, h8, h9, g0, g1⟩ hKe hKr hK
    obtain ⟨d, hd⟩ : ∃ d, l[i]? = some d := ⟨l[i], List.getElem?_eq_getElem hi⟩
    have e1 := ihn d (List.mem_of_getElem? hd)
    have hlt : (i : Int) < (l.length : Int) := by omega
    have hw := wrap_succ hi (by omega)
    have hpt := plains_take hd
    have fv := acc.flat
    generalize d.plain = d2 at *
    obtain ⟨kd, td, md, ld, ad⟩ := d
    obtain ⟨k2, t2, m2, l2, p2⟩ := d2
    simp only [D.v_mk] at e1
    have hn0 := low.lt g1
    have n0 : ¬ 0 = H.n := by omega
    have n1 : ¬ 1 = H.n := by omega
    have n0' : ¬ 0 = H.n + 1 := by omega
    have n1' : ¬ 1 = H.n + 1 := by omega
    let X : Obj := .row [.int .i64 0, .str [], .nils, .nils, .int .i64 0] 0 false (some 30)
    let Y : Obj := .row [.int .i64 kd, .str td, vInts md, vData ld, .int .i64 ad] 0 false (some 30)
    have hX : (H.push X).t.get H.n = some X := by rw [h_get, if_pos rfl]
    have lowX : HLow ((H.push X).put H.n Y) := low.push.put (by simp [h_n])
    have accX := (acc.push low (ob := X)).put (k := H.n) (by decide) hX (ob := Y)
    obtain ⟨v', H', happ, acc', kp, low'⟩ := (accX.push lowX (ob := .row [.int .i64 k2, .str t2, vInts m2, vData l2, .int .i64 p2] 0 true none)).more (e := 30) (bs := 80) (m := 1) (ys := [.int .i64 k2, .str t2, vInts m2, vData l2, .int .i64 p2]) (Nat.zero_le _) lowX.push (by decide) rfl five_flat (by omega)
    have q0 := (accX.push lowX).row (by decide) kp (j := 0) (by rw [h_get, h_nput, h_n, if_neg n0', h_gput, if_neg n0, h_get, if_neg n0]; exact g0)
    have q1 := (accX.push lowX).row (by decide) kp (j := 1) (by rw [h_get, h_nput, h_n, if_neg n1', h_gput, if_neg n1, h_get, if_neg n1]; exact g1)
    simp -implicitDefEqProofs only [X, Y] at happ
    simp -implicitDefEqProofs only [c18_l0, ↓v_lenS, SB, POp.val, AOp.val, WOp.val, Lite.bin, intBin, strBin, eqv, eqMany, eq1, AV.asBool, AV.asInt, AV.asNat, AV.asPtr, AV.asStr, resVals, ResV.val, oneOr, wants, skipped, fillAt, putAt, capOf, optNat, bnd, Nat.reduceBEq, reduceIte, Nat.reduceAdd, Nat.reduceLeDiff, Nat.reduceEqDiff, Nat.reduceSub, Nat.reduceMul, Nat.reduceDiv, SOper.again, same, sameBlk, sameCap, Nat.reduceBneDiff, s_draw2, s_pair, k_pair, asunder, SOper.into, Bool.not_false, Bool.not_true, CL, DS, h1, h2, h3, h7, h8, h9, g0, g1, hlt, iaddr_vData hd, e1, k_taken, happ, hw]
    refine hK _ _ ⟨v', ?_, low', ?_⟩
    · rw [hpt, flat_snoc, D.cells_mk]
      exact acc'
    · simp -implicitDefEqProofs only [↓v_lenS, SB, POp.val, AOp.val, WOp.val, Lite.bin, intBin, strBin, eqv, eqMany, eq1, AV.asBool, AV.asInt, AV.asNat, AV.asPtr, AV.asStr, resVals, ResV.val, oneOr, wants, skipped, fillAt, putAt, capOf, optNat, bnd, Nat.reduceBEq, reduceIte, Nat.reduceAdd, Nat.reduceLeDiff, Nat.reduceEqDiff, Nat.reduceSub, Nat.reduceMul, Nat.reduceDiv, SOper.again, same, sameBlk, sameCap, Nat.reduceBneDiff, s_draw2, s_pair, k_pair, asunder, SOper.into, Bool.not_false, Bool.not_true, h1, h2, h7, h8, q0, q1]
  · rintro fr H K' ⟨v, acc, low, h1, h2, h3, h7, h8, h9, g0, g1⟩ hKe hKr
    rw [List.take_length, ← plains_len l] at acc
    obtain ⟨H', hcl, kp⟩ := ownClone_acc (es := 5) (bytes := 80) (by decide) D.cells_len D.still D.cells_flat (by rw [plains_len]; omega) (by rw [plains_len]; omega) acc
    have hcl' : ownClone 5 80 [v] H = some (.ret (vData (D.plains l)), H') := hcl
    have q0 := acc.row (by decide) kp g0
    have q1 := acc.row (by decide) kp g1
    simp -implicitDefEqProofs only [c18_l0, ↓v_lenS, SB, POp.val, AOp.val, WOp.val, Lite.bin, intBin, strBin, eqv, eqMany, eq1, AV.asBool, AV.asInt, AV.asNat, AV.asPtr, AV.asStr, resVals, ResV.val, oneOr, wants, skipped, fillAt, putAt, capOf, optNat, bnd, Nat.reduceBEq, reduceIte, Nat.reduceAdd, Nat.reduceLeDiff, Nat.reduceEqDiff, Nat.reduceSub, Nat.reduceMul, Nat.reduceDiv, SOper.again, same, sameBlk, sameCap, Nat.reduceBneDiff, s_draw2, s_pair, k_pair, asunder, SOper.into, Bool.not_false, Bool.not_true, CL, DS, h1, h2, h3, h7, h8, h9, g0, g1, Int.lt_irrefl, hKe, callN_own (P := P2) (f := 33) (g := ownClone 5 80) rfl, hcl', q0, q1, Ends, gives_ret]
    exact ⟨_, rfl⟩
  · refine ⟨.nils, Acc.nil, HLow.bare.push.push, ?_⟩
    simp -implicitDefEqProofs only [↓v_lenS, SB, POp.val, AOp.val, WOp.val, Lite.bin, intBin, strBin, eqv, eqMany, eq1, AV.asBool, AV.asInt, AV.asNat, AV.asPtr, AV.asStr, resVals, ResV.val, oneOr, wants, skipped, fillAt, putAt, capOf, optNat, bnd, Nat.reduceBEq, reduceIte, Nat.reduceAdd, Nat.reduceLeDiff, Nat.reduceEqDiff, Nat.reduceSub, Nat.reduceMul, Nat.reduceDiv, SOper.again, same, sameBlk, sameCap, Nat.reduceBneDiff, s_draw2, s_pair, k_pair, asunder, SOper.into, Bool.not_false, Bool.not_true]
    rfl

theorem plain23 : ∀ d : D, d.small → Ret P2 23 [d.v] d.plain.v := D.indA fun k t ms l a ih hsm => by
  rw [D.small, D.smalls_iff] at hsm
  obtain ⟨f1, f2, f3⟩ := hsm
  rw [D.plain, D.v_mk, D.v_mk, vInts_nil]
  refine Ret.of rfl (code23 _ _) rfl rfl (fun H => by simp -implicitDefEqProofs only [↓v_lenS, SB, POp.val, AOp.val, WOp.val, Lite.bin, intBin, strBin, eqv, eqMany, eq1, AV.asBool, AV.asInt, AV.asNat, AV.asPtr, AV.asStr, resVals, ResV.val, oneOr, wants, skipped, fillAt, putAt, capOf, optNat, bnd, Nat.reduceBEq, reduceIte, Nat.reduceAdd, Nat.reduceLeDiff, Nat.reduceEqDiff, Nat.reduceSub, Nat.reduceMul, Nat.reduceDiv, SOper.again, same, sameBlk, sameCap, Nat.reduceBneDiff, s_draw2, s_pair, k_pair, asunder, SOper.into, Bool.not_false, Bool.not_true, DS]) ?_
  refine ((Ev.all l fun d hd => ih d hd (f3 d hd)).and (Ev.ge (l.length + 1))).mono fun n hn H => ?_
  obtain ⟨ihn, hge⟩ := hn
  simp -implicitDefEqProofs only [c23, ↓v_lenS, SB, POp.val, AOp.val, WOp.val, Lite.bin, intBin, strBin, eqv, eqMany, eq1, AV.asBool, AV.asInt, AV.asNat, AV.asPtr, AV.asStr, resVals, ResV.val, oneOr, wants, skipped, fillAt, putAt, capOf, optNat, bnd, Nat.reduceBEq, reduceIte, Nat.reduceAdd, Nat.reduceLeDiff, Nat.reduceEqDiff, Nat.reduceSub, Nat.reduceMul, Nat.reduceDiv, SOper.again, same, sameBlk, sameCap, Nat.reduceBneDiff, s_draw2, s_pair, k_pair, asunder, SOper.into, Bool.not_false, Bool.not_true, CL, DS]
  refine loop_rounds l.length (fun i fr H => ∃ v, Acc 0 H 30 5 i ((D.plains (l.take i)).flatMap D.cells) v ∧ HLow H ∧ fr 1 = .ptr (.new 0) 0 ∧ fr 2 = .ptr (.new 1) 0 ∧ fr 3 = .ptr (.new 2) 0 ∧ fr 4 = .int .i64 i ∧
      H.t.get 0 = some (.row [.int .i64 k, .str t, vInts ms, vData l, .int .i64 a] 0 false (some 30)) ∧ H.t.get 1 = some (.row [.int .i64 0, .str [], .nils, .nils, .int .i64 0] 0 false (some 30)) ∧ H.t.get 2 = some (.row [.int .i64 k, .str t, .nils, v, .int .i64 a] 0 false (some 30))) ?_ ?_ n 0 _ _ (by omega) (by omega) ?_
  · rintro i fr H K' hi ⟨v, acc, low, h1, h2, h3, h4, g0, g1, g2⟩ hKe hKr hK
    obtain ⟨d, hd⟩ : ∃ d, l[i]? = some d := ⟨l[i], List.getElem?_eq_getElem hi⟩
    have e1 := ihn d (List.mem_of_getElem? hd)
    have hlt : (i : Int) < (l.length : Int) := by omega
    have hw := wrap_succ hi (by omega)
    have hpt := plains_take hd
    have fv := acc.flat
    generalize d.plain = d2 at *
    obtain ⟨kd, td, md, ld, ad⟩ := d
    obtain ⟨k2, t2, m2, l2, p2⟩ := d2
    simp only [D.v_mk] at e1
    obtain ⟨v', H', happ, acc', kp, low'⟩ := (acc.push low (ob := .row [.int .i64 k2, .str t2, vInts m2, vData l2, .int .i64 p2] 0 true none)).more (e := 30) (bs := 80) (m := 1) (ys := [.int .i64 k2, .str t2, vInts m2, vData l2, .int .i64 p2]) (Nat.zero_le _) low.push (by decide) rfl five_flat (by omega)
    have hn0 := low.lt g2
    have n0 : ¬ 0 = H.n := by omega
    have n1 : ¬ 1 = H.n := by omega
    have n2 : ¬ 2 = H.n := by omega
    have q0 := (acc.push low).row (by decide) kp (j := 0) (by rw [h_get, if_neg n0]; exact g0)
    have q1 := (acc.push low).row (by decide) kp (j := 1) (by rw [h_get, if_neg n1]; exact g1)
    have q2 := (acc.push low).row (by decide) kp (j := 2) (by rw [h_get, if_neg n2]; exact g2)
    have fv' := acc'.flat
    simp -implicitDefEqProofs only [c23_l0, ↓v_lenS, SB, POp.val, AOp.val, WOp.val, Lite.bin, intBin, strBin, eqv, eqMany, eq1, AV.asBool, AV.asInt, AV.asNat, AV.asPtr, AV.asStr, resVals, ResV.val, oneOr, wants, skipped, fillAt, putAt, capOf, optNat, bnd, Nat.reduceBEq, reduceIte, Nat.reduceAdd, Nat.reduceLeDiff, Nat.reduceEqDiff, Nat.reduceSub, Nat.reduceMul, Nat.reduceDiv, SOper.again, same, sameBlk, sameCap, Nat.reduceBneDiff, s_draw2, s_pair, k_pair, asunder, SOper.into, Bool.not_false, Bool.not_true, CL, DS, h1, h3, h4, g0, g1, g2, hlt, iaddr_vData hd, e1, k_taken, happ, q2, fv', hw]
    refine hK _ _ ⟨v', ?_, low'.put (low'.lt q2), ?_⟩
    · rw [hpt, flat_snoc, D.cells_mk]
      exact acc'.put (by decide) q2
    · simp -implicitDefEqProofs only [↓v_lenS, SB, POp.val, AOp.val, WOp.val, Lite.bin, intBin, strBin, eqv, eqMany, eq1, AV.asBool, AV.asInt, AV.asNat, AV.asPtr, AV.asStr, resVals, ResV.val, oneOr, wants, skipped, fillAt, putAt, capOf, optNat, bnd, Nat.reduceBEq, reduceIte, Nat.reduceAdd, Nat.reduceLeDiff, Nat.reduceEqDiff, Nat.reduceSub, Nat.reduceMul, Nat.reduceDiv, SOper.again, same, sameBlk, sameCap, Nat.reduceBneDiff, s_draw2, s_pair, k_pair, asunder, SOper.into, Bool.not_false, Bool.not_true, h1, h2, h3, q0, q1]
  · rintro fr H K' ⟨v, acc, low, h1, h2, h3, h4, g0, g1, g2⟩ hKe hKr
    rw [List.take_length] at acc
    have fv := acc.flat
    have acc2 := acc.put (k := 1) (by decide) g1 (ob := .row [.int .i64 k, .str t, .nils, v, .int .i64 a] 0 false (some 30))
    obtain ⟨H', hsh, kp⟩ := acc2.shut (d := 63) (by decide) (Still.flat D.still _)
    rw [← plains_len l, L_vData] at hsh
    simp -implicitDefEqProofs only [c23_l0, ↓v_lenS, SB, POp.val, AOp.val, WOp.val, Lite.bin, intBin, strBin, eqv, eqMany, eq1, AV.asBool, AV.asInt, AV.asNat, AV.asPtr, AV.asStr, resVals, ResV.val, oneOr, wants, skipped, fillAt, putAt, capOf, optNat, bnd, Nat.reduceBEq, reduceIte, Nat.reduceAdd, Nat.reduceLeDiff, Nat.reduceEqDiff, Nat.reduceSub, Nat.reduceMul, Nat.reduceDiv, SOper.again, same, sameBlk, sameCap, Nat.reduceBneDiff, s_draw2, s_pair, k_pair, asunder, SOper.into, Bool.not_false, Bool.not_true, CL, DS, h1, h2, h3, h4, g0, g1, g2, Int.lt_irrefl, hKe, Ends, gives_ret, fv, hsh]
    exact ⟨_, rfl⟩
  · refine ⟨.nils, Acc.nil, (HLow.bare.push.push.push).put (by simp [h_n, h_nbare]), ?_⟩
    simp -implicitDefEqProofs only [↓v_lenS, SB, POp.val, AOp.val, WOp.val, Lite.bin, intBin, strBin, eqv, eqMany, eq1, AV.asBool, AV.asInt, AV.asNat, AV.asPtr, AV.asStr, resVals, ResV.val, oneOr, wants, skipped, fillAt, putAt, capOf, optNat, bnd, Nat.reduceBEq, reduceIte, Nat.reduceAdd, Nat.reduceLeDiff, Nat.reduceEqDiff, Nat.reduceSub, Nat.reduceMul, Nat.reduceDiv, SOper.again, same, sameBlk, sameCap, Nat.reduceBneDiff, s_draw2, s_pair, k_pair, asunder, SOper.into, Bool.not_false, Bool.not_true]
    rfl

/-- known -/
theorem known11 : Ret P2 11 [] (.bool true) := by
  refine Ret.of rfl (code11 _ _) rfl rfl (fun H => rfl) ?_
  refine ((text14 (.mk 4 [] [] [] 0) ⟨by simp, trivial⟩ (by simp [D.txt, D.txts])).and ((is22 (.mk 3 [97] [] [] 0) [97]).and (size15 (.mk 1 [49] [] [] 0) (by simp [D.size, D.sizes])))).mono fun n hn H => ?_
  obtain ⟨e1, e2, e3⟩ := hn
  simp only [D.v_mk, vInts_nil, vData_nil, D.txt, D.txts, D.size, D.sizes, if_true, List.append_nil, List.cons_append, List.nil_append] at e1 e2 e3
  simp -implicitDefEqProofs only [c11, ↓v_lenS, SB, POp.val, AOp.val, WOp.val, Lite.bin, intBin, strBin, eqv, eqMany, eq1, AV.asBool, AV.asInt, AV.asNat, AV.asPtr, AV.asStr, resVals, ResV.val, oneOr, wants, skipped, fillAt, putAt, capOf, optNat, bnd, Nat.reduceBEq, reduceIte, Nat.reduceAdd, Nat.reduceLeDiff, Nat.reduceEqDiff, Nat.reduceSub, Nat.reduceMul, Nat.reduceDiv, SOper.again, same, sameBlk, sameCap, Nat.reduceBneDiff, s_draw2, s_pair, k_pair, asunder, SOper.into, Bool.not_false, Bool.not_true, CL, e1, e2, e3, Ends, gives_ret]
  exact ⟨_, rfl⟩

end Go.Lite
