/-
  Several texts in one: BLawF, BRefA, BRefB, BRefC, BRefMul.
-/
import Derived.Test.YtpnbhbacpkoddaaDoorQbE
import Derived.Test.YtpnbhbacpkoddaaDoorQbD

/-
  The law BigTens.
-/
namespace Go.Lite
open Go Go.Proofs
set_option maxRecDepth 100000
set_option linter.unusedSimpArgs false
set_option linter.unusedVariables false

theorem quoR {x y q r : Int} (j k : Nat) (hx : x.natAbs < 10 ^ j) (hy : y.natAbs < 10 ^ k) (hj : j ≤ 200) (hk : k ≤ 200) (hy0 : y ≠ 0) (hq : x.tdiv y = q) (hr : x.tmod y = r) : Ret P4 22 [.str (decZ x), .str (decZ y)] (.tuple [.str (decZ q), .str (decZ r), .bool true]) := by
  have h := quo22 x y (lift_pow hx hj) (lift_pow hy hk) (by omega) hy0
  have h1 : q.natAbs < 10 ^ 200 := by
    rw [← hq, Int.natAbs_tdiv]
    exact Nat.lt_of_le_of_lt (Nat.div_le_self _ _) (lift_pow hx hj)
  have h2 : r.natAbs < 10 ^ 200 := by
    rw [← hr, Int.natAbs_tmod]
    exact Nat.lt_of_le_of_lt (Nat.mod_le _ _) (lift_pow hx hj)
  rw [hq, hr] at h
  unfold opZ at h
  rwa [if_pos h1, if_pos h2] at h

theorem z10 : decZ 10 = [49, 48] := by
  have h1 : decN 1 = [49] := decN_small (by omega)
  have h2 : decN 10 = [49, 48] := dec_ten (n := 1) (d := 0) h1 (by omega) (by omega)
  rw [show (10 : Int) = ((10 : Nat) : Int) from rfl, decZ_nonneg, h2]

theorem law10 (f : Bool) (ks : List Int) (k : Int) (hks : ks.length ≤ 9223372036854775807) : Ret P4 10 [vI f ks, .int .i64 k] (.bool true) := by
  refine Ret.of rfl (code10 _ _) rfl rfl (fun H => by simp -implicitDefEqProofs only [↓v_lenS, SB, POp.val, AOp.val, WOp.val, Lite.bin, intBin, strBin, eqv, eqMany, eq1, AV.asBool, AV.asInt, AV.asNat, AV.asPtr, AV.asStr, resVals, ResV.val, oneOr, wants, skipped, fillAt, putAt, capOf, optNat, bnd, Nat.reduceBEq, reduceIte, Nat.reduceAdd, Nat.reduceLeDiff, Nat.reduceEqDiff, Nat.reduceSub, Nat.reduceMul, Nat.reduceDiv, SOper.again, same, sameBlk, sameCap, Nat.reduceBneDiff, s_draw2, s_pair, k_pair, asunder, SOper.into, Bool.not_false, Bool.not_true, IS]) ?_
  have n0 := num14 f ks 150 false hks (by omega)
  have lx := numZ_lt ks 150 false
  have px := numZ_nonneg ks 150
  generalize numZ ks 150 false = z at *
  have e150 : ((150 : Nat) : Int) = 150 := rfl
  have hw := within_range k (b := 10) (by omega) (by omega)
  have w1 := within15 k 10 (by omega)
  obtain ⟨d, hd⟩ : ∃ d : Nat, within k 10 = (d : Int) := ⟨(within k 10).toNat, by omega⟩
  rw [hd] at w1 hw
  have hd10 : d < 10 := by omega
  have sm := small24 d (by omega)
  rw [decN_small hd10] at sm
  have hdz : decZ (d : Int) = [48 + d] := by rw [decZ_nonneg, decN_small hd10]
  have ld : (d : Int).natAbs < 10 ^ 1 := by rw [Int.natAbs_natCast]; omega
  have l10 : (10 : Int).natAbs < 10 ^ 2 := by decide
  have r7 := mulR (z := z * 10) 150 2 lx l10 (by omega) rfl
  have l7 := mul_lt lx l10
  have r9 := addR (z := z * 10 + d) 152 1 l7 ld (by omega) (by omega) rfl
  have l9 : (z * 10 + d).natAbs < 10 ^ 153 := add_lt l7 (lift_pow ld (by omega))
  have r11 := quoR (q := z) (r := d) 153 2 l9 l10 (by omega) (by omega) (by omega)
    (by rw [Int.tdiv_eq_ediv_of_nonneg (by omega)]; omega) (by rw [Int.tmod_eq_emod_of_nonneg (by omega)]; omega)
  have hz0 := decZ_eq0 z
  rw [z10] at r7 r11
  rw [hdz] at r9 r11
  have hdd : (([48 + d] : List Nat) == [48 + d]) = true := by simp
  have h00 : (([48] : List Nat) == [48]) = true := rfl
  by_cases h0 : z = 0
  · rw [decide_eq_true h0] at hz0
    subst h0
    rw [show (0 : Int) * 10 = 0 from rfl] at r7 r9 r11
    rw [show (0 : Int) + (d : Int) = (d : Int) by omega, hdz] at r9 r11
    rw [z0] at *
    refine (known13.and (n0.and (w1.and (sm.and (r7.and (r9.and r11)))))).mono fun n e H => ?_
    obtain ⟨e0, e1, e2, e3, e4, e5, e6⟩ := e
    rw [e150] at e1
    generalize 48 + d = dd at *
    simp -implicitDefEqProofs only [c10, ↓v_lenS, SB, POp.val, AOp.val, WOp.val, Lite.bin, intBin, strBin, eqv, eqMany, eq1, AV.asBool, AV.asInt, AV.asNat, AV.asPtr, AV.asStr, resVals, ResV.val, oneOr, wants, skipped, fillAt, putAt, capOf, optNat, bnd, Nat.reduceBEq, reduceIte, Nat.reduceAdd, Nat.reduceLeDiff, Nat.reduceEqDiff, Nat.reduceSub, Nat.reduceMul, Nat.reduceDiv, SOper.again, same, sameBlk, sameCap, Nat.reduceBneDiff, s_draw2, s_pair, k_pair, asunder, SOper.into, Bool.not_false, Bool.not_true, CL, IS, e0, e1, e2, e3, e4, e5, e6, hdd, h00, Ends, gives_ret]
    exact ⟨_, rfl⟩
  · rw [decide_eq_false h0] at hz0
    obtain ⟨v, hv⟩ : ∃ v : Nat, z = (v : Int) := ⟨z.toNat, by omega⟩
    have t7 : decZ (z * 10) = decZ z ++ [48] := by
      rw [hv, show ((v : Int) * 10) = ((10 * v + 0 : Nat) : Int) by omega, decZ_nonneg, decZ_nonneg, decN_step (by omega) (by omega)]
    have t9 : decZ (z * 10 + d) = decZ z ++ [48 + d] := by
      rw [hv, show ((v : Int) * 10 + d) = ((10 * v + d : Nat) : Int) by omega, decZ_nonneg, decZ_nonneg, decN_step (by omega) hd10]
    rw [t7] at r7 r9
    rw [t9] at r9 r11
    have hl := decZ_len lx (by omega)
    generalize decZ z = s at *
    have hl1 : s.length + 1 ≤ 4611686018427387904 := by omega
    have x1 : ((s ++ [48]) == (s ++ [48])) = true := by simp
    have x2 : ((s ++ [48 + d]) == (s ++ [48 + d])) = true := by simp
    have x3 : (s == s) = true := by simp
    refine (known13.and (n0.and (w1.and (sm.and (r7.and (r9.and r11)))))).mono fun n e H => ?_
    obtain ⟨e0, e1, e2, e3, e4, e5, e6⟩ := e
    rw [e150] at e1
    generalize 48 + d = dd at *
    simp -implicitDefEqProofs only [c10, ↓v_lenS, SB, POp.val, AOp.val, WOp.val, Lite.bin, intBin, strBin, eqv, eqMany, eq1, AV.asBool, AV.asInt, AV.asNat, AV.asPtr, AV.asStr, resVals, ResV.val, oneOr, wants, skipped, fillAt, putAt, capOf, optNat, bnd, Nat.reduceBEq, reduceIte, Nat.reduceAdd, Nat.reduceLeDiff, Nat.reduceEqDiff, Nat.reduceSub, Nat.reduceMul, Nat.reduceDiv, SOper.again, same, sameBlk, sameCap, Nat.reduceBneDiff, s_draw2, s_pair, k_pair, asunder, SOper.into, Bool.not_false, Bool.not_true, CL, IS, e0, e1, e2, e3, e4, e5, e6, hz0, hl1, x1, x2, x3, hdd, Ends, gives_ret]
    exact ⟨_, rfl⟩

end Go.Lite

/-
  The document's numbers: digits, the lowest first; their texts.
-/
namespace Go.Lite
open Go Go.Proofs
set_option maxRecDepth 100000
set_option linter.unusedSimpArgs false
set_option linter.unusedVariables false

/-- a row of numbers as a frame holds it, sliced or not -/
def W (v : AV) (l : List Nat) : Prop := (∃ f, v = .lst 0 0 f [] ∧ l = []) ∨ ∃ g, v = .lst 1 l.length g (l.flatMap nat1)

theorem W.vN (f : Bool) (l : List Nat) : W (vN f l) l := by
  cases l with
  | nil => exact .inl ⟨f, rfl, rfl⟩
  | cons x l => exact .inr ⟨false, rfl⟩

theorem W.len {v : AV} {l : List Nat} (h : W v l) : lenM v = some (.int .i64 l.length) := by
  rcases h with ⟨f, rfl, rfl⟩ | ⟨g, rfl⟩ <;> rfl

theorem W.flat {v : AV} {l : List Nat} (h : W v l) : v.flat = true := by
  rcases h with ⟨f, rfl, rfl⟩ | ⟨g, rfl⟩ <;> rfl

theorem W.at {v : AV} {l : List Nat} (h : W v l) {j x : Nat} (hj : l[j]? = some x) : iaddrV 1 v j = some (.ptr (.val [.int .i64 (x : Int)]) 0) := by
  have hlt := (List.getElem?_eq_some_iff.1 hj).1
  rcases h with ⟨f, rfl, rfl⟩ | ⟨g, rfl⟩
  · simp at hj
  · have h1 := flat_at nat1_len l j
    rw [hj] at h1
    rw [iaddr_lst, if_pos ⟨hlt, rfl⟩, h1]; rfl

theorem W.slice {v : AV} {l : List Nat} (h : W v l) {j : Nat} (hj : j ≤ l.length) : ∃ y, sliceOf 1 v none (some j) none = some y ∧ W y (l.take j) := by
  rcases h with ⟨f, rfl, rfl⟩ | ⟨g, rfl⟩
  · obtain rfl : j = 0 := by simpa using hj
    refine ⟨.lst 0 0 f [], ?_, .inl ⟨f, rfl, by simp⟩⟩
    simp only [sliceOf, Option.getD_some, Option.getD_none]
    rw [if_pos ⟨by omega, by omega, by omega, .inr trivial⟩]
    cases f <;> simp
  · have h1 := flat_take nat1_len l j
    refine ⟨.lst 1 j (bif g then Nat.beq l.length j else false) ((l.take j).flatMap nat1), ?_, .inr ⟨bif g then Nat.beq l.length j else false, by rw [List.length_take, Nat.min_eq_left hj]⟩⟩
    simp only [sliceOf, Option.getD_some, Option.getD_none]
    rw [if_pos ⟨by omega, by omega, by omega, .inl trivial⟩, Nat.zero_mul, List.drop_zero, Nat.sub_zero, h1]

theorem W.shut {v : AV} {l : List Nat} (h : W v l) : ∃ f, (∀ H, shutV v H = some (Lite.vN f l, H)) ∧ (∀ H, Lite.shutA v H = some (Lite.vN f l, H)) := by
  rcases h with ⟨f, rfl, rfl⟩ | ⟨g, rfl⟩
  · exact ⟨f, fun H => rfl, fun H => rfl⟩
  · exact ⟨g, fun H => rfl, fun H => rfl⟩

/-- .. of which none is known that stands behind it -/
def W0 (l : List Nat) : AV := .lst 1 l.length false (l.flatMap nat1)
theorem W0_len (l : List Nat) : lenM (W0 l) = some (.int .i64 l.length) := rfl
theorem W0_W (l : List Nat) : W (W0 l) l := .inr ⟨false, rfl⟩
theorem W0_slice {l : List Nat} {j : Nat} (hj : j ≤ l.length) : sliceOf 1 (W0 l) none (some j) none = some (W0 (l.take j)) := by
  have h1 := flat_take nat1_len l j
  have h2 : (l.take j).length = j := by rw [List.length_take, Nat.min_eq_left hj]
  simp only [W0, sliceOf, Option.getD_some, Option.getD_none, cond_false]
  rw [if_pos ⟨by omega, by omega, by omega, .inl trivial⟩, Nat.zero_mul, List.drop_zero, Nat.sub_zero, h1, h2]
theorem W0_shut {l : List Nat} {H : Heap} : shutV (W0 l) H = some (vN false l, H) := rfl
theorem W0_vN {f : Bool} {l : List Nat} (h : l ≠ []) : vN f l = W0 l := by
  cases l with
  | nil => exact absurd rfl h
  | cons x l => rfl

/-- how an emptied row is told -/
def tf (f : Bool) (l : List Nat) : Bool := if l = [] then f else false

theorem trim43 (f : Bool) (l : List Nat) (hl : l.length ≤ 1000000) : Ret P4 43 [vN f l] (vN (tf f l) (trimL l)) := by
  refine Ret.of rfl (code43 _ _) rfl rfl (fun H => by simp -implicitDefEqProofs only [↓v_lenS, SB, POp.val, AOp.val, WOp.val, Lite.bin, intBin, strBin, eqv, eqMany, eq1, AV.asBool, AV.asInt, AV.asNat, AV.asPtr, AV.asStr, resVals, ResV.val, oneOr, wants, skipped, fillAt, putAt, capOf, optNat, bnd, Nat.reduceBEq, reduceIte, Nat.reduceAdd, Nat.reduceLeDiff, Nat.reduceEqDiff, Nat.reduceSub, Nat.reduceMul, Nat.reduceDiv, SOper.again, same, sameBlk, sameCap, Nat.reduceBneDiff, s_draw2, s_pair, k_pair, asunder, SOper.into, Bool.not_false, Bool.not_true, BS]) ((Ev.ge (l.length + 2)).mono fun n hge H => ?_)
  have hle := trimL_len l
  by_cases h0 : l = []
  · subst h0
    obtain ⟨m, rfl⟩ : ∃ m, n = m + 1 := ⟨n - 1, by omega⟩
    have hgt : ¬ ((0 : Nat) : Int) > 0 := by omega
    simp -implicitDefEqProofs only [c43, c43_l0, ↓v_lenS, SB, POp.val, AOp.val, WOp.val, Lite.bin, intBin, strBin, eqv, eqMany, eq1, AV.asBool, AV.asInt, AV.asNat, AV.asPtr, AV.asStr, resVals, ResV.val, oneOr, wants, skipped, fillAt, putAt, capOf, optNat, bnd, Nat.reduceBEq, reduceIte, Nat.reduceAdd, Nat.reduceLeDiff, Nat.reduceEqDiff, Nat.reduceSub, Nat.reduceMul, Nat.reduceDiv, SOper.again, same, sameBlk, sameCap, Nat.reduceBneDiff, s_draw2, s_pair, k_pair, asunder, SOper.into, Bool.not_false, Bool.not_true, loop_succ, vN_nil, hgt, k_blockE, tf, trimL_nil, Ends, gives_ret]
    exact ⟨_, rfl⟩
  · have ht : tf f l = false := by unfold tf; rw [if_neg h0]
    rw [ht, W0_vN h0]
    simp -implicitDefEqProofs only [c43, ↓v_lenS, SB, POp.val, AOp.val, WOp.val, Lite.bin, intBin, strBin, eqv, eqMany, eq1, AV.asBool, AV.asInt, AV.asNat, AV.asPtr, AV.asStr, resVals, ResV.val, oneOr, wants, skipped, fillAt, putAt, capOf, optNat, bnd, Nat.reduceBEq, reduceIte, Nat.reduceAdd, Nat.reduceLeDiff, Nat.reduceEqDiff, Nat.reduceSub, Nat.reduceMul, Nat.reduceDiv, SOper.again, same, sameBlk, sameCap, Nat.reduceBneDiff, s_draw2, s_pair, k_pair, asunder, SOper.into, Bool.not_false, Bool.not_true]
    refine loop_rounds (l.length - (trimL l).length) (fun i fr H => fr 0 = W0 (l.take (l.length - i))) ?_ ?_ n 0 _ _ (by omega) (by omega) ?_
    · rintro i fr H K' hi h00 hKe hKr hK
      obtain ⟨j, hj⟩ : ∃ j, l.length - i = j + 1 := ⟨l.length - i - 1, by omega⟩
      rw [hj] at h00
      rw [show l.length - (i + 1) = j by omega] at hK
      have hlj : (l.take (j + 1)).length = j + 1 := by rw [List.length_take]; omega
      have hat : (l.take (j + 1))[j]? = some 0 := by
        rw [List.getElem?_take_of_lt (by omega), atN_at (by omega), trim_at (l := l) (i := j) (by omega) (by omega)]
      have ha := (W0_W (l.take (j + 1))).at hat
      have hs := W0_slice (l := l.take (j + 1)) (j := j) (by omega)
      rw [List.take_take, Nat.min_eq_left (by omega)] at hs
      have hln := W0_len (l.take (j + 1))
      rw [hlj] at hln
      have hgt : ((j + 1 : Nat) : Int) > 0 := by omega
      have hw : IntKind.i64.wrap (((j + 1 : Nat) : Int) - 1) = (j : Int) := by rw [wrap64 (by omega) (by omega)]; omega
      have hz : (((0 : Nat) : Int) == 0) = true := rfl
      generalize W0 (l.take (j + 1)) = v at *
      generalize W0 (l.take j) = v' at *
      simp -implicitDefEqProofs only [c43_l0, ↓v_lenS, SB, POp.val, AOp.val, WOp.val, Lite.bin, intBin, strBin, eqv, eqMany, eq1, AV.asBool, AV.asInt, AV.asNat, AV.asPtr, AV.asStr, resVals, ResV.val, oneOr, wants, skipped, fillAt, putAt, capOf, optNat, bnd, Nat.reduceBEq, reduceIte, Nat.reduceAdd, Nat.reduceLeDiff, Nat.reduceEqDiff, Nat.reduceSub, Nat.reduceMul, Nat.reduceDiv, SOper.again, same, sameBlk, sameCap, Nat.reduceBneDiff, s_draw2, s_pair, k_pair, asunder, SOper.into, Bool.not_false, Bool.not_true, h00, hln, hgt, hw, ha, hz, hs]
      refine hK _ _ ?_
      simp -implicitDefEqProofs only [↓v_lenS, SB, POp.val, AOp.val, WOp.val, Lite.bin, intBin, strBin, eqv, eqMany, eq1, AV.asBool, AV.asInt, AV.asNat, AV.asPtr, AV.asStr, resVals, ResV.val, oneOr, wants, skipped, fillAt, putAt, capOf, optNat, bnd, Nat.reduceBEq, reduceIte, Nat.reduceAdd, Nat.reduceLeDiff, Nat.reduceEqDiff, Nat.reduceSub, Nat.reduceMul, Nat.reduceDiv, SOper.again, same, sameBlk, sameCap, Nat.reduceBneDiff, s_draw2, s_pair, k_pair, asunder, SOper.into, Bool.not_false, Bool.not_true]
    · rintro fr H K' h00 hKe hKr
      rw [show l.length - (l.length - (trimL l).length) = (trimL l).length by omega, ← trimL_take] at h00
      have hln := W0_len (trimL l)
      have hsh := fun H => W0_shut (l := trimL l) (H := H)
      by_cases hne : trimL l = []
      · have hz : (trimL l).length = 0 := by rw [hne]; rfl
        rw [hz] at hln
        have hgt : ¬ ((0 : Nat) : Int) > 0 := by omega
        generalize W0 (trimL l) = v at *
        simp -implicitDefEqProofs only [c43_l0, ↓v_lenS, SB, POp.val, AOp.val, WOp.val, Lite.bin, intBin, strBin, eqv, eqMany, eq1, AV.asBool, AV.asInt, AV.asNat, AV.asPtr, AV.asStr, resVals, ResV.val, oneOr, wants, skipped, fillAt, putAt, capOf, optNat, bnd, Nat.reduceBEq, reduceIte, Nat.reduceAdd, Nat.reduceLeDiff, Nat.reduceEqDiff, Nat.reduceSub, Nat.reduceMul, Nat.reduceDiv, SOper.again, same, sameBlk, sameCap, Nat.reduceBneDiff, s_draw2, s_pair, k_pair, asunder, SOper.into, Bool.not_false, Bool.not_true, h00, hln, hgt, hKe, k_blockE, hsh, Ends, gives_ret]
        exact ⟨_, rfl⟩
      · have hp := List.length_pos_iff.2 hne
        have hgt : (((trimL l).length : Nat) : Int) > 0 := by omega
        have hw : IntKind.i64.wrap (((trimL l).length : Int) - 1) = (((trimL l).length - 1 : Nat) : Int) := by rw [wrap64 (by omega) (by omega)]; omega
        have hat : (trimL l)[(trimL l).length - 1]? = some (atN l ((trimL l).length - 1)) := by
          have h5 : (trimL l)[(trimL l).length - 1]? = (l.take (trimL l).length)[(trimL l).length - 1]? := by rw [← trimL_take]
          rw [h5, List.getElem?_take_of_lt (by omega), atN_at (by omega)]
        have ha := (W0_W (trimL l)).at hat
        have hz : (((atN l ((trimL l).length - 1) : Nat) : Int) == 0) = false := by simpa using trim_top hne
        generalize W0 (trimL l) = v at *
        simp -implicitDefEqProofs only [c43_l0, ↓v_lenS, SB, POp.val, AOp.val, WOp.val, Lite.bin, intBin, strBin, eqv, eqMany, eq1, AV.asBool, AV.asInt, AV.asNat, AV.asPtr, AV.asStr, resVals, ResV.val, oneOr, wants, skipped, fillAt, putAt, capOf, optNat, bnd, Nat.reduceBEq, reduceIte, Nat.reduceAdd, Nat.reduceLeDiff, Nat.reduceEqDiff, Nat.reduceSub, Nat.reduceMul, Nat.reduceDiv, SOper.again, same, sameBlk, sameCap, Nat.reduceBneDiff, s_draw2, s_pair, k_pair, asunder, SOper.into, Bool.not_false, Bool.not_true, h00, hln, hgt, hw, ha, hz, hKe, k_blockE, hsh, Ends, gives_ret]
        exact ⟨_, rfl⟩
    · rw [Nat.sub_zero, List.take_length]
      simp -implicitDefEqProofs only [↓v_lenS, SB, POp.val, AOp.val, WOp.val, Lite.bin, intBin, strBin, eqv, eqMany, eq1, AV.asBool, AV.asInt, AV.asNat, AV.asPtr, AV.asStr, resVals, ResV.val, oneOr, wants, skipped, fillAt, putAt, capOf, optNat, bnd, Nat.reduceBEq, reduceIte, Nat.reduceAdd, Nat.reduceLeDiff, Nat.reduceEqDiff, Nat.reduceSub, Nat.reduceMul, Nat.reduceDiv, SOper.again, same, sameBlk, sameCap, Nat.reduceBneDiff, s_draw2, s_pair, k_pair, asunder, SOper.into, Bool.not_false, Bool.not_true]

end Go.Lite

/-
  The document's digits of a text.
-/
namespace Go.Lite
open Go Go.Proofs
set_option maxRecDepth 100000
set_option linter.unusedSimpArgs false
set_option linter.unusedVariables false

def digL (d : Str) : Nat → List Nat
  | 0 => []
  | i + 1 => digL d i ++ [atN d (d.length - (i + 1)) - 48]

theorem digL_len (d : Str) : ∀ i, (digL d i).length = i
  | 0 => rfl
  | i + 1 => by simp [digL, digL_len d i]

theorem digL_ok {d : Str} (h : Digs d) : ∀ i, i ≤ d.length → Under 10 (digL d i) ∧ lval 10 (digL d i) = dval (d.drop (d.length - i))
  | 0, _ => ⟨.nil, by simp [digL, lval, dval]⟩
  | i + 1, hi => by
    obtain ⟨h1, h2⟩ := digL_ok h i (by omega)
    have hlt : d.length - (i + 1) < d.length := by omega
    have hd := h _ (List.mem_of_getElem? (atN_at hlt))
    refine ⟨h1.snoc (by omega), ?_⟩
    have h3 : d.drop (d.length - (i + 1)) = [atN d (d.length - (i + 1))] ++ d.drop (d.length - i) := by
      rw [List.drop_eq_getElem_cons hlt, show d.length - (i + 1) + 1 = d.length - i by omega]
      have := atN_at hlt
      rw [List.getElem?_eq_getElem hlt] at this
      simp only [Option.some.injEq] at this
      rw [← this]; rfl
    have h4 : (d.drop (d.length - i)).length = i := by rw [List.length_drop]; omega
    have h5 : dval [atN d (d.length - (i + 1))] = atN d (d.length - (i + 1)) - 48 := by simp [dval]
    rw [digL, lval_snoc, digL_len, h2, h3, dval_append, h4, h5, Nat.mul_comm]
    omega

theorem digL_trim {d : Str} (h : Digs d) : trimL (digL d d.length) = limbs 10 (dval d) := by
  obtain ⟨h1, h2⟩ := digL_ok h d.length (Nat.le_refl _)
  rw [Nat.sub_self, List.drop_zero] at h2
  rw [← h2, limbs_trim (by omega) h1]

theorem u8_digit {c : Nat} (h1 : 48 ≤ c) (h2 : c ≤ 57) : IntKind.u8.wrap ((c : Int) - 48) = ((c - 48 : Nat) : Int) := by
  have : ∀ c : Nat, c < 58 → 48 ≤ c → IntKind.u8.wrap ((c : Int) - 48) = ((c - 48 : Nat) : Int) := by decide
  exact this c (by omega) h1

theorem decZ_minus' {z : Int} (h : z < 0) : decZ z = 45 :: decZ (z.natAbs : Int) := by
  rw [decZ_nonneg]; unfold decZ; rw [if_pos h]
theorem decZ_plain' {z : Int} (h : 0 ≤ z) : decZ z = decZ (z.natAbs : Int) := by
  rw [decZ_nonneg]; unfold decZ; rw [if_neg (by omega)]

theorem digits40 (z : Int) {k : Nat} (hz : z.natAbs < 10 ^ (k + 1)) (hk : k ≤ 2000) : Ret P4 40 [.str (decZ z)] (.tuple [vN false (limbs 10 z.natAbs), .bool (decide (z < 0))]) := by
  have hd := decN_digs z.natAbs
  have hv := dval_decN z.natAbs
  have hl := (decN_len_le (n := z.natAbs) (k := k + 1) (by omega)).2 hz
  have hne := List.length_pos_iff.2 (decN_ne z.natAbs)
  have htrim := digL_trim hd
  rw [hv] at htrim
  have e43 := trim43 true (digL (decN z.natAbs) (decN z.natAbs).length) (by rw [digL_len]; omega)
  have hfl : tf true (digL (decN z.natAbs) (decN z.natAbs).length) = false := by
    unfold tf; rw [if_neg]; intro h; have := digL_len (decN z.natAbs) (decN z.natAbs).length; rw [h] at this; simp at this; omega
  rw [hfl, htrim] at e43
  obtain ⟨c0, t0, hs, hc256, h45⟩ := decZ_head z
  have hA : decZ (z.natAbs : Int) = if z < 0 then t0 else c0 :: t0 := by
    by_cases h : z < 0
    · have := decZ_minus' h; rw [hs] at this; rw [if_pos h]; exact (List.cons.inj this).2.symm
    · have := decZ_plain' (z := z) (by omega); rw [hs] at this; rw [if_neg h]; exact this.symm
  rw [decZ_nonneg] at hA
  generalize hdd : decN z.natAbs = d at *
  refine Ret.of rfl (code40 _ _) rfl rfl (fun H => by simp -implicitDefEqProofs only [↓v_lenS, SB, POp.val, AOp.val, WOp.val, Lite.bin, intBin, strBin, eqv, eqMany, eq1, AV.asBool, AV.asInt, AV.asNat, AV.asPtr, AV.asStr, resVals, ResV.val, oneOr, wants, skipped, fillAt, putAt, capOf, optNat, bnd, Nat.reduceBEq, reduceIte, Nat.reduceAdd, Nat.reduceLeDiff, Nat.reduceEqDiff, Nat.reduceSub, Nat.reduceMul, Nat.reduceDiv, SOper.again, same, sameBlk, sameCap, Nat.reduceBneDiff, s_draw2, s_pair, k_pair, asunder, SOper.into, Bool.not_false, Bool.not_true]) ((e43.and (Ev.ge (d.length + 2))).mono fun n e H => ?_)
  obtain ⟨e1, hge⟩ := e
  have loop : ∀ (fr : Fr) (H : Heap), HLow H → fr 0 = .str d → fr 4 = .bool (decide (z < 0)) → fr 5 = .nils → fr 6 = .int .i64 (d.length : Nat) →
      Ends (loopR (callN P4 n) n c40_l0 n fr H (blockK 0 (seqK (callN P4 n) n (SCode.seq (SCode.ops [SOper.mk (some 28) none (SOp.p (POp.move (SX.tmp 5))), SOper.mk (some 29) none (SOp.call (SX.lit (AV.func 43 [])) [SX.tmp 28]), SOper.mk (some 30) none (SOp.p (POp.move (SX.tmp 4))), SOper.mk (some 2) none (SOp.p (POp.move (SX.tmp 29))), SOper.mk (some 3) none (SOp.p (POp.move (SX.tmp 30)))]) SCode.ret) (finish [ResV.tmp 2, ResV.tmp 3])))) (.tuple [vN false (limbs 10 z.natAbs), .bool (decide (z < 0))]) := by
    intro fr H low h0 h4 h5 h6
    refine loop_rounds d.length (fun i fr H => fr 0 = .str d ∧ fr 4 = .bool (decide (z < 0)) ∧ fr 6 = .int .i64 (d.length - i : Nat) ∧ HLow H ∧ Acc 0 H 3 1 i ((digL d i).flatMap nat1) (fr 5)) ?_ ?_ n 0 _ _ (by omega) (by omega) ⟨h0, h4, by simpa using h6, low, by rw [h5]; exact Acc.nil⟩
    · rintro i fr H K' hi ⟨h0, h4, h6, low, acc⟩ hKe hKr hK
      obtain ⟨j, hj⟩ : ∃ j, j = d.length - (i + 1) := ⟨_, rfl⟩
      have hdg := hd _ (List.mem_of_getElem? (atN_at (l := d) (i := j) (by omega)))
      rw [show d.length - i = j + 1 by omega] at h6
      have hgt : ((j + 1 : Nat) : Int) > 0 := by omega
      have hw : IntKind.i64.wrap (((j + 1 : Nat) : Int) - 1) = (j : Int) := by rw [wrap64 (by omega) (by omega)]; omega
      have hnx : digL d (i + 1) = digL d i ++ [atN d j - 48] := by rw [hj]; rfl
      rw [hnx, ← hj] at hK
      have hat := atN_at (l := d) (i := j) (by omega)
      have w1 := u8_digit hdg.1 hdg.2
      have w2 : IntKind.i64.wrap ((atN d j - 48 : Nat) : Int) = ((atN d j - 48 : Nat) : Int) := wrap64 (by omega) (by omega)
      obtain ⟨H7, happ, acc7, low7, hn7, car7⟩ := nat_more acc low (Nat.zero_le _) (atN d j - 48) (by omega) (digL_len d i)
      generalize hv5 : fr 5 = v at *
      simp -implicitDefEqProofs only [c40_l0, ↓v_lenS, SB, POp.val, AOp.val, WOp.val, Lite.bin, intBin, strBin, eqv, eqMany, eq1, AV.asBool, AV.asInt, AV.asNat, AV.asPtr, AV.asStr, resVals, ResV.val, oneOr, wants, skipped, fillAt, putAt, capOf, optNat, bnd, Nat.reduceBEq, reduceIte, Nat.reduceAdd, Nat.reduceLeDiff, Nat.reduceEqDiff, Nat.reduceSub, Nat.reduceMul, Nat.reduceDiv, SOper.again, same, sameBlk, sameCap, Nat.reduceBneDiff, s_draw2, s_pair, k_pair, asunder, SOper.into, Bool.not_false, Bool.not_true, h0, h6, hgt, hw, hat, w1, w2, hv5, acc.flat, happ]
      refine hK _ _ ⟨?_, ?_, ?_, low7, ?_⟩
      all_goals simp -implicitDefEqProofs only [↓v_lenS, SB, POp.val, AOp.val, WOp.val, Lite.bin, intBin, strBin, eqv, eqMany, eq1, AV.asBool, AV.asInt, AV.asNat, AV.asPtr, AV.asStr, resVals, ResV.val, oneOr, wants, skipped, fillAt, putAt, capOf, optNat, bnd, Nat.reduceBEq, reduceIte, Nat.reduceAdd, Nat.reduceLeDiff, Nat.reduceEqDiff, Nat.reduceSub, Nat.reduceMul, Nat.reduceDiv, SOper.again, same, sameBlk, sameCap, Nat.reduceBneDiff, s_draw2, s_pair, k_pair, asunder, SOper.into, Bool.not_false, Bool.not_true, h0, h4]
      exact acc7
    · rintro fr H K' ⟨h0, h4, h6, low, acc⟩ hKe hKr
      rw [Nat.sub_self] at h6
      have hgt : ¬ ((0 : Nat) : Int) > 0 := by omega
      obtain ⟨H', hs, kp⟩ := acc.shutV (by decide) (nats_still _)
      have hs' : shutV (fr 5) H = some (vN true (digL d d.length), H') := by
        rw [hs]; show some (AV.L true 1 _ d.length, H') = some (AV.L true 1 _ (digL d d.length).length, H'); rw [digL_len]
      simp -implicitDefEqProofs only [c40_l0, ↓v_lenS, SB, POp.val, AOp.val, WOp.val, Lite.bin, intBin, strBin, eqv, eqMany, eq1, AV.asBool, AV.asInt, AV.asNat, AV.asPtr, AV.asStr, resVals, ResV.val, oneOr, wants, skipped, fillAt, putAt, capOf, optNat, bnd, Nat.reduceBEq, reduceIte, Nat.reduceAdd, Nat.reduceLeDiff, Nat.reduceEqDiff, Nat.reduceSub, Nat.reduceMul, Nat.reduceDiv, SOper.again, same, sameBlk, sameCap, Nat.reduceBneDiff, s_draw2, s_pair, k_pair, asunder, SOper.into, Bool.not_false, Bool.not_true, CL, BS, h4, h6, hgt, hKe, k_blockE, hs', e1, gives_ret]
      exact ⟨_, rfl⟩
  have i1 : ((0 : Int) ≤ 1) = True := by simp
  have i2 : Int.toNat 1 = 1 := rfl
  rw [hs]
  by_cases hn : z < 0
  · rw [decide_eq_true hn] at h45
    rw [if_pos hn] at hA
    subst hA
    have h6 : List.take (d.length + 1 - 1) d = d := List.take_of_length_le (by omega)
    have h7 : 1 ≤ d.length + 1 := by omega
    simp -implicitDefEqProofs only [c40, ↓v_lenS, SB, POp.val, AOp.val, WOp.val, Lite.bin, intBin, strBin, eqv, eqMany, eq1, AV.asBool, AV.asInt, AV.asNat, AV.asPtr, AV.asStr, resVals, ResV.val, oneOr, wants, skipped, fillAt, putAt, capOf, optNat, bnd, Nat.reduceBEq, reduceIte, Nat.reduceAdd, Nat.reduceLeDiff, Nat.reduceEqDiff, Nat.reduceSub, Nat.reduceMul, Nat.reduceDiv, SOper.again, same, sameBlk, sameCap, Nat.reduceBneDiff, s_draw2, s_pair, k_pair, asunder, SOper.into, Bool.not_false, Bool.not_true, i_toNat0, i_le0, i1, i2, h45, h6, h7]
    refine loop _ _ HLow.bare ?_ ?_ ?_ ?_
    all_goals simp -implicitDefEqProofs only [↓v_lenS, SB, POp.val, AOp.val, WOp.val, Lite.bin, intBin, strBin, eqv, eqMany, eq1, AV.asBool, AV.asInt, AV.asNat, AV.asPtr, AV.asStr, resVals, ResV.val, oneOr, wants, skipped, fillAt, putAt, capOf, optNat, bnd, Nat.reduceBEq, reduceIte, Nat.reduceAdd, Nat.reduceLeDiff, Nat.reduceEqDiff, Nat.reduceSub, Nat.reduceMul, Nat.reduceDiv, SOper.again, same, sameBlk, sameCap, Nat.reduceBneDiff, s_draw2, s_pair, k_pair, asunder, SOper.into, Bool.not_false, Bool.not_true, decide_eq_true hn]
  · rw [decide_eq_false hn] at h45
    rw [if_neg hn] at hA
    rw [← hA]
    have hA' : c0 :: t0 = d := hA.symm
    have h0i : d[0]? = some c0 := by rw [hA]; rfl
    simp -implicitDefEqProofs only [c40, ↓v_lenS, SB, POp.val, AOp.val, WOp.val, Lite.bin, intBin, strBin, eqv, eqMany, eq1, AV.asBool, AV.asInt, AV.asNat, AV.asPtr, AV.asStr, resVals, ResV.val, oneOr, wants, skipped, fillAt, putAt, capOf, optNat, bnd, Nat.reduceBEq, reduceIte, Nat.reduceAdd, Nat.reduceLeDiff, Nat.reduceEqDiff, Nat.reduceSub, Nat.reduceMul, Nat.reduceDiv, SOper.again, same, sameBlk, sameCap, Nat.reduceBneDiff, s_draw2, s_pair, k_pair, asunder, SOper.into, Bool.not_false, Bool.not_true, i_toNat0, i_le0, i1, i2, h45, h0i]
    refine loop _ _ HLow.bare ?_ ?_ ?_ ?_
    all_goals simp -implicitDefEqProofs only [↓v_lenS, SB, POp.val, AOp.val, WOp.val, Lite.bin, intBin, strBin, eqv, eqMany, eq1, AV.asBool, AV.asInt, AV.asNat, AV.asPtr, AV.asStr, resVals, ResV.val, oneOr, wants, skipped, fillAt, putAt, capOf, optNat, bnd, Nat.reduceBEq, reduceIte, Nat.reduceAdd, Nat.reduceLeDiff, Nat.reduceEqDiff, Nat.reduceSub, Nat.reduceMul, Nat.reduceDiv, SOper.again, same, sameBlk, sameCap, Nat.reduceBneDiff, s_draw2, s_pair, k_pair, asunder, SOper.into, Bool.not_false, Bool.not_true, decide_eq_false hn]

end Go.Lite

/-
  The document's text of a row of digits.
-/
namespace Go.Lite
open Go Go.Proofs
set_option maxRecDepth 100000
set_option linter.unusedSimpArgs false
set_option linter.unusedVariables false

theorem limbs_decN (n : Nat) : 0 < n → decN n = (limbs 10 n).reverse.map (48 + ·) := by
  induction n using Nat.strongRecOn with
  | _ n ih =>
    intro hn
    rw [limbs_pos (by omega) hn, List.reverse_cons, List.map_append]
    by_cases h : n < 10
    · rw [decN_small h, show n / 10 = 0 by omega, limbs_zero, show n % 10 = n by omega]; rfl
    · rw [decN_big h, ih (n / 10) (by omega) (by omega)]; rfl

def sgnP (neg : Bool) : Str := if neg then [45] else []

theorem rev_take {T : List Nat} {i : Nat} (h : i < T.length) : (T.reverse.take (i + 1)).map (48 + ·) = (T.reverse.take i).map (48 + ·) ++ [48 + atN T (T.length - (i + 1))] := by
  have h1 : T.reverse[i]? = some (atN T (T.length - (i + 1))) := by
    rw [List.getElem?_reverse h, show T.length - 1 - i = T.length - (i + 1) by omega, atN_at (by omega)]
  rw [List.take_add_one, h1, Option.toList_some, List.map_append]; rfl

theorem text41 (f neg : Bool) (l : List Nat) (hl : Under 10 l) (hlen : l.length ≤ 900000) : Ret P4 41 [vN f l, .bool neg] (opT (valZ neg (lval 10 l))) := by
  have e43 := trim43 f l (by omega)
  have htr := limbs_trim (B := 10) (by omega) hl
  rw [← htr] at e43
  generalize hn : lval 10 l = n at *
  generalize tf f l = g at *
  have hu := limbs_below (B := 10) (by omega) n
  have hTl : (limbs 10 n).length ≤ 900000 := by have := trimL_len l; rw [← htr] at this; omega
  refine Ret.of rfl (code41 _ _) rfl rfl (fun H => by simp -implicitDefEqProofs only [↓v_lenS, SB, POp.val, AOp.val, WOp.val, Lite.bin, intBin, strBin, eqv, eqMany, eq1, AV.asBool, AV.asInt, AV.asNat, AV.asPtr, AV.asStr, resVals, ResV.val, oneOr, wants, skipped, fillAt, putAt, capOf, optNat, bnd, Nat.reduceBEq, reduceIte, Nat.reduceAdd, Nat.reduceLeDiff, Nat.reduceEqDiff, Nat.reduceSub, Nat.reduceMul, Nat.reduceDiv, SOper.again, same, sameBlk, sameCap, Nat.reduceBneDiff, s_draw2, s_pair, k_pair, asunder, SOper.into, Bool.not_false, Bool.not_true, BS]) ((e43.and (Ev.ge ((limbs 10 n).length + 5))).mono fun m e H => ?_)
  obtain ⟨e1, hge⟩ := e
  have hna : (valZ neg n).natAbs = n := by unfold valZ; split <;> simp
  by_cases h0 : n = 0
  · subst h0
    have hr : opT (valZ neg 0) = .tuple [.str [48], .bool true] := by
      have : valZ neg 0 = 0 := by cases neg <;> rfl
      rw [this]; simp [opT, opZ, decZ, decN_small]
    rw [hr]
    rw [limbs_zero] at e1
    have hz : (((0 : Nat) : Int) == 0) = true := rfl
    simp -implicitDefEqProofs only [c41, ↓v_lenS, SB, POp.val, AOp.val, WOp.val, Lite.bin, intBin, strBin, eqv, eqMany, eq1, AV.asBool, AV.asInt, AV.asNat, AV.asPtr, AV.asStr, resVals, ResV.val, oneOr, wants, skipped, fillAt, putAt, capOf, optNat, bnd, Nat.reduceBEq, reduceIte, Nat.reduceAdd, Nat.reduceLeDiff, Nat.reduceEqDiff, Nat.reduceSub, Nat.reduceMul, Nat.reduceDiv, SOper.again, same, sameBlk, sameCap, Nat.reduceBneDiff, s_draw2, s_pair, k_pair, asunder, SOper.into, Bool.not_false, Bool.not_true, CL, BS, vN_nil, vN_nil ▸ e1, e1, hz, Ends, gives_ret]
    exact ⟨_, rfl⟩
  · have hdec := limbs_decN n (by omega)
    have hdl : (decN n).length = (limbs 10 n).length := by rw [hdec]; simp
    have hlp : 0 < (limbs 10 n).length := by have := List.length_pos_iff.2 (decN_ne n); omega
    have hz : (((limbs 10 n).length : Int) == 0) = false := by rw [beq_eq_false_iff_ne]; omega
    have hiff := decN_len_le (n := n) (k := 200) (by omega)
    have h256 := decN_256 n
    generalize hT : limbs 10 n = T at *
    by_cases hsh : n < 10 ^ 200
    · have hgt : ¬ (T.length : Int) > 200 := by have := hiff.2 hsh; omega
      have hop : opT (valZ neg n) = .tuple [.str (sgnP neg ++ decN n), .bool true] := by
        unfold opT opZ
        rw [hna, if_pos hsh, decide_eq_true hsh]
        unfold valZ sgnP
        cases neg with
        | true => rw [if_pos rfl, if_pos rfl, decZ_neg (by omega)]; rfl
        | false => rw [if_neg (by simp), if_neg (by simp), decZ_nonneg]; rfl
      rw [hop]
      have hP : (sgnP neg).length ≤ 1 := by unfold sgnP; split <;> simp
      have hP256 : ∀ c ∈ sgnP neg, c < 256 := by unfold sgnP; split <;> simp
      have loop : ∀ (fr : Fr) (H : Heap), HLow H → fr 0 = vN g T → Acc 0 H 5 1 (sgnP neg).length (bytes (sgnP neg)) (fr 6) → fr 7 = .int .i64 (T.length : Nat) →
          Ends (loopR (callN P4 m) m c41_l0 m fr H (blockK 0 (seqK (callN P4 m) m (SCode.seq (SCode.ops [SOper.mk (some 36) none (SOp.p (POp.move (SX.tmp 6))), SOper.mk (some 37) none (SOp.p (POp.bytesStr (SX.tmp 36))), SOper.mk (some 4) none (SOp.p (POp.move (SX.tmp 37))), SOper.mk (some 5) none (SOp.p (POp.move (SX.lit (AV.bool true))))]) SCode.ret) (finish [ResV.tmp 4, ResV.tmp 5])))) (.tuple [.str (sgnP neg ++ decN n), .bool true]) := by
        intro fr H low h00 acc h7
        refine loop_rounds T.length (fun i fr H => fr 0 = vN g T ∧ fr 7 = .int .i64 (T.length - i : Nat) ∧ HLow H ∧ Acc 0 H 5 1 ((sgnP neg).length + i) (bytes (sgnP neg ++ (T.reverse.take i).map (48 + ·))) (fr 6)) ?_ ?_ m 0 _ _ (by omega) (by omega) ⟨h00, by simpa using h7, low, by simpa using acc⟩
        · rintro i fr H K' hi ⟨h00, h7, low, acc⟩ hKe hKr hK
          obtain ⟨j, hj⟩ : ∃ j, j = T.length - (i + 1) := ⟨_, rfl⟩
          rw [show T.length - i = j + 1 by omega] at h7
          rw [rev_take hi, ← hj, ← List.append_assoc] at hK
          have hgt : ((j + 1 : Nat) : Int) > 0 := by omega
          have hw : IntKind.i64.wrap (((j + 1 : Nat) : Int) - 1) = (j : Int) := by rw [wrap64 (by omega) (by omega)]; omega
          have ha := iaddr_vN (f := g) (atN_at (l := T) (i := j) (by omega))
          have hlt := atN_lt (by omega) hu j
          obtain ⟨H7, happ, acc7, low7, hn7, car7, cai7⟩ := byte_more (d := 48 + atN T j) acc low (Nat.zero_le _) (by omega)
          generalize hv6 : fr 6 = v at *
          simp -implicitDefEqProofs only [c41_l0, ↓v_lenS, SB, POp.val, AOp.val, WOp.val, Lite.bin, intBin, strBin, eqv, eqMany, eq1, AV.asBool, AV.asInt, AV.asNat, AV.asPtr, AV.asStr, resVals, ResV.val, oneOr, wants, skipped, fillAt, putAt, capOf, optNat, bnd, Nat.reduceBEq, reduceIte, Nat.reduceAdd, Nat.reduceLeDiff, Nat.reduceEqDiff, Nat.reduceSub, Nat.reduceMul, Nat.reduceDiv, SOper.again, same, sameBlk, sameCap, Nat.reduceBneDiff, s_draw2, s_pair, k_pair, asunder, SOper.into, Bool.not_false, Bool.not_true, h00, h7, hgt, hw, ha, digit_wrap hlt, digit_byte hlt, hv6, acc.flat, happ]
          refine hK _ _ ⟨?_, ?_, low7, ?_⟩
          all_goals simp -implicitDefEqProofs only [↓v_lenS, SB, POp.val, AOp.val, WOp.val, Lite.bin, intBin, strBin, eqv, eqMany, eq1, AV.asBool, AV.asInt, AV.asNat, AV.asPtr, AV.asStr, resVals, ResV.val, oneOr, wants, skipped, fillAt, putAt, capOf, optNat, bnd, Nat.reduceBEq, reduceIte, Nat.reduceAdd, Nat.reduceLeDiff, Nat.reduceEqDiff, Nat.reduceSub, Nat.reduceMul, Nat.reduceDiv, SOper.again, same, sameBlk, sameCap, Nat.reduceBneDiff, s_draw2, s_pair, k_pair, asunder, SOper.into, Bool.not_false, Bool.not_true, h00]
          exact acc7
        · rintro fr H K' ⟨h00, h7, low, acc⟩ hKe hKr
          rw [Nat.sub_self] at h7
          have hgt0 : ¬ ((0 : Nat) : Int) > 0 := by omega
          rw [show T.reverse.take T.length = T.reverse from List.take_of_length_le (by simp), ← hdec] at acc
          have hstr := acc_str acc (by rw [List.length_append, hdl]) (fun c hc => (List.mem_append.1 hc).elim (hP256 c) (h256 c))
          simp -implicitDefEqProofs only [c41_l0, ↓v_lenS, SB, POp.val, AOp.val, WOp.val, Lite.bin, intBin, strBin, eqv, eqMany, eq1, AV.asBool, AV.asInt, AV.asNat, AV.asPtr, AV.asStr, resVals, ResV.val, oneOr, wants, skipped, fillAt, putAt, capOf, optNat, bnd, Nat.reduceBEq, reduceIte, Nat.reduceAdd, Nat.reduceLeDiff, Nat.reduceEqDiff, Nat.reduceSub, Nat.reduceMul, Nat.reduceDiv, SOper.again, same, sameBlk, sameCap, Nat.reduceBneDiff, s_draw2, s_pair, k_pair, asunder, SOper.into, Bool.not_false, Bool.not_true, h7, hgt0, hKe, k_blockE, hstr, gives_ret]
          exact ⟨_, rfl⟩
      cases neg with
      | true =>
        obtain ⟨H7, happ, acc7, low7, hn7, car7, cai7⟩ := byte_more (N := 0) (n := 0) (d := 45) (H := H.bare) (s := []) (v := .nils) Acc.nil HLow.bare (Nat.zero_le _) (by omega)
        simp -implicitDefEqProofs only [h_nbare] at happ acc7
        rw [show ((45 : Nat) : Int) = 45 from rfl] at happ
        simp -implicitDefEqProofs only [c41, ↓v_lenS, SB, POp.val, AOp.val, WOp.val, Lite.bin, intBin, strBin, eqv, eqMany, eq1, AV.asBool, AV.asInt, AV.asNat, AV.asPtr, AV.asStr, resVals, ResV.val, oneOr, wants, skipped, fillAt, putAt, capOf, optNat, bnd, Nat.reduceBEq, reduceIte, Nat.reduceAdd, Nat.reduceLeDiff, Nat.reduceEqDiff, Nat.reduceSub, Nat.reduceMul, Nat.reduceDiv, SOper.again, same, sameBlk, sameCap, Nat.reduceBneDiff, s_draw2, s_pair, k_pair, asunder, SOper.into, Bool.not_false, Bool.not_true, CL, BS, e1, hz, hgt, happ]
        refine loop _ _ low7 ?_ ?_ ?_
        all_goals simp -implicitDefEqProofs only [↓v_lenS, SB, POp.val, AOp.val, WOp.val, Lite.bin, intBin, strBin, eqv, eqMany, eq1, AV.asBool, AV.asInt, AV.asNat, AV.asPtr, AV.asStr, resVals, ResV.val, oneOr, wants, skipped, fillAt, putAt, capOf, optNat, bnd, Nat.reduceBEq, reduceIte, Nat.reduceAdd, Nat.reduceLeDiff, Nat.reduceEqDiff, Nat.reduceSub, Nat.reduceMul, Nat.reduceDiv, SOper.again, same, sameBlk, sameCap, Nat.reduceBneDiff, s_draw2, s_pair, k_pair, asunder, SOper.into, Bool.not_false, Bool.not_true]
        exact acc7
      | false =>
        simp -implicitDefEqProofs only [c41, ↓v_lenS, SB, POp.val, AOp.val, WOp.val, Lite.bin, intBin, strBin, eqv, eqMany, eq1, AV.asBool, AV.asInt, AV.asNat, AV.asPtr, AV.asStr, resVals, ResV.val, oneOr, wants, skipped, fillAt, putAt, capOf, optNat, bnd, Nat.reduceBEq, reduceIte, Nat.reduceAdd, Nat.reduceLeDiff, Nat.reduceEqDiff, Nat.reduceSub, Nat.reduceMul, Nat.reduceDiv, SOper.again, same, sameBlk, sameCap, Nat.reduceBneDiff, s_draw2, s_pair, k_pair, asunder, SOper.into, Bool.not_false, Bool.not_true, CL, BS, e1, hz, hgt]
        refine loop _ _ HLow.bare ?_ ?_ ?_
        all_goals simp -implicitDefEqProofs only [↓v_lenS, SB, POp.val, AOp.val, WOp.val, Lite.bin, intBin, strBin, eqv, eqMany, eq1, AV.asBool, AV.asInt, AV.asNat, AV.asPtr, AV.asStr, resVals, ResV.val, oneOr, wants, skipped, fillAt, putAt, capOf, optNat, bnd, Nat.reduceBEq, reduceIte, Nat.reduceAdd, Nat.reduceLeDiff, Nat.reduceEqDiff, Nat.reduceSub, Nat.reduceMul, Nat.reduceDiv, SOper.again, same, sameBlk, sameCap, Nat.reduceBneDiff, s_draw2, s_pair, k_pair, asunder, SOper.into, Bool.not_false, Bool.not_true]
        exact Acc.nil
    · have hgt : (T.length : Int) > 200 := by
        have : ¬ (decN n).length ≤ 200 := fun h => hsh (hiff.1 h)
        omega
      have hop : opT (valZ neg n) = .tuple [.str [], .bool false] := by
        unfold opT opZ
        rw [hna, if_neg hsh, decide_eq_false hsh]
      rw [hop]
      simp -implicitDefEqProofs only [c41, ↓v_lenS, SB, POp.val, AOp.val, WOp.val, Lite.bin, intBin, strBin, eqv, eqMany, eq1, AV.asBool, AV.asInt, AV.asNat, AV.asPtr, AV.asStr, resVals, ResV.val, oneOr, wants, skipped, fillAt, putAt, capOf, optNat, bnd, Nat.reduceBEq, reduceIte, Nat.reduceAdd, Nat.reduceLeDiff, Nat.reduceEqDiff, Nat.reduceSub, Nat.reduceMul, Nat.reduceDiv, SOper.again, same, sameBlk, sameCap, Nat.reduceBneDiff, s_draw2, s_pair, k_pair, asunder, SOper.into, Bool.not_false, Bool.not_true, CL, BS, e1, hz, hgt, Ends, gives_ret]
      exact ⟨_, rfl⟩

end Go.Lite

/-
  The document's product.
-/
namespace Go.Lite
open Go Go.Proofs
set_option maxRecDepth 100000
set_option linter.unusedSimpArgs false
set_option linter.unusedVariables false

/-- what stands while the document multiplies -/
def MR (p q : Bool) (x y : List Nat) (Z : List Nat) (i : Nat) (fr : Fr) (H : Heap) : Prop :=
  fr 6 = vN false x ∧ fr 7 = .bool p ∧ fr 8 = vN false y ∧ fr 9 = .bool q ∧ fr 10 = .slice (.new 0) 0 (x.length + y.length + 1) (.fix (x.length + y.length + 1) 1) ∧ fr 11 = .int .i64 (i : Nat) ∧
  H.t.get 0 = some (.row (Z.flatMap nat1) 0 false none)

theorem mulR_l0 {n m : Nat} {p q : Bool} {x y Z : List Nat} {i : Nat} {fr : Fr} {H : Heap} {KK : Ex → Fr → Heap → R} {Q : AV → Heap → Prop} (hx : Under 10 x) (hy : Under 10 y) (hZ : Under 10 Z) (hi : i < x.length) (hZl : Z.length = x.length + y.length + 1) (hv : lval 10 Z < 10 ^ (i + y.length)) (hlx : x.length ≤ 300000) (hly : y.length ≤ 300000)
    (hm : y.length + 2 < m) (h0 : MR p q x y Z i fr H) (h12 : fr 12 = .int .i64 (0 : Nat)) (h13 : fr 13 = .int .i64 (0 : Nat))
    (hK : ∀ (fr : Fr) (H : Heap), MR p q x y (mulIn 10 (atN x i) y Z i (y.length + 1)).1 i fr H → Gives (KK (.exit 2) fr H) Q) :
    Gives (loopR (callN P4 n) n c23_l0 m fr H KK) Q := by
  have hB : 2 ≤ 10 := by omega
  have ha := atN_lt (by omega) hx i
  have hax := iaddr_vN (f := false) (atN_at hi)
  generalize atN x i = a at *
  refine loop_rounds (y.length + 1) (fun j fr H => MR p q x y (mulIn 10 a y Z i j).1 i fr H ∧ fr 12 = .int .i64 ((mulIn 10 a y Z i j).2 : Nat) ∧ fr 13 = .int .i64 (j : Nat)) ?_ ?_ m 0 _ _ (by omega) (by omega) ⟨h0, h12, h13⟩
  · rintro j fr H K' hj ⟨⟨h6, h7, h8, h9, h10, h11, g0⟩, h12, h13⟩ hKe hKr hK'
    obtain ⟨p1, p2, p3, p4⟩ := mulIn_ok (i := i) hB ha hy hZ j (by omega)
    have a1 := atN_lt (by omega) p2 (i + j)
    have a2 := atN_lt (by omega) hy j
    have hr := mul_room a1 ha a2 p3
    by_cases hst : j < y.length ∨ 0 < (mulIn 10 a y Z i j).2
    · have hnx : mulIn 10 a y Z i (j + 1) = ((mulIn 10 a y Z i j).1.set (i + j) ((atN (mulIn 10 a y Z i j).1 (i + j) + a * atN y j + (mulIn 10 a y Z i j).2) % 10), (atN (mulIn 10 a y Z i j).1 (i + j) + a * atN y j + (mulIn 10 a y Z i j).2) / 10) := rfl
      rw [hnx] at hK'
      generalize (mulIn 10 a y Z i j).2 = c at *
      generalize (mulIn 10 a y Z i j).1 = U at *
      have hpl : i + j < U.length := by omega
      have hpN : i + j < x.length + y.length + 1 := by omega
      have hat' := nats_at hpl
      have hset := fun v => nats_set (v := v) hpl
      have hlen := nats_len U
      have hplC : i + j + 1 ≤ (U.flatMap nat1).length := by omega
      have w0 : IntKind.i64.wrap ((i : Int) + (j : Int)) = ((i + j : Nat) : Int) := wrap_nat (by omega)
      have w8 := wrap_succ (i := j) (n := y.length + 1) hj (by omega)
      have w6 : ((10 : Int) == 0) = false := rfl
      have w7 : ¬ (10 : Int) = 0 := by omega
      by_cases hlt : j < y.length
      · have hay := iaddr_vN (f := false) (atN_at hlt)
        have hlt' : (j : Int) < (y.length : Int) := by omega
        generalize hz : atN U (i + j) = z at *
        generalize hb : atN y j = b at *
        generalize hab : a * b = ab at *
        have w1 : IntKind.i64.wrap ((a : Int) * (b : Int)) = ((ab : Nat) : Int) := by
          have : (a : Int) * (b : Int) = ((ab : Nat) : Int) := by rw [← hab]; simp
          rw [this, wrap64 (by omega) (by omega)]
        have w2 : IntKind.i64.wrap ((z : Int) + (c : Int)) = ((z + c : Nat) : Int) := by rw [wrap64 (by omega) (by omega)]; rfl
        have w3 : IntKind.i64.wrap (((z + c : Nat) : Int) + (ab : Int)) = ((z + ab + c : Nat) : Int) := by rw [wrap64 (by omega) (by omega)]; omega
        have w4 := quo_nat (a := z + ab + c) (b := 10) (by omega) (by omega)
        have w5 := rem_nat (z + ab + c) 10
        rw [show ((10 : Nat) : Int) = 10 from rfl] at w4 w5
        generalize z + ab + c = d at *
        have hset' := hset (d % 10)
        generalize hC : U.flatMap nat1 = C at *
        generalize hC' : (U.set (i + j) (d % 10)).flatMap nat1 = C' at *
        simp -implicitDefEqProofs only [c23_l0, ↓v_lenS, SB, POp.val, AOp.val, WOp.val, Lite.bin, intBin, strBin, eqv, eqMany, eq1, AV.asBool, AV.asInt, AV.asNat, AV.asPtr, AV.asStr, resVals, ResV.val, oneOr, wants, skipped, fillAt, putAt, capOf, optNat, bnd, Nat.reduceBEq, reduceIte, Nat.reduceAdd, Nat.reduceLeDiff, Nat.reduceEqDiff, Nat.reduceSub, Nat.reduceMul, Nat.reduceDiv, SOper.again, same, sameBlk, sameCap, Nat.reduceBneDiff, s_draw2, s_pair, k_pair, asunder, SOper.into, Bool.not_false, Bool.not_true, CL, BS, Nat.mul_one, h6, h8, h10, h11, h12, h13, g0, hlt', hpN, hat', hax, hay, hplC, hset', w0, w1, w2, w3, w4, w5, w6, w7, w8]
        refine hK' _ _ ⟨⟨?_, ?_, ?_, ?_, ?_, ?_, ?_⟩, ?_, ?_⟩
        all_goals simp -implicitDefEqProofs only [↓v_lenS, SB, POp.val, AOp.val, WOp.val, Lite.bin, intBin, strBin, eqv, eqMany, eq1, AV.asBool, AV.asInt, AV.asNat, AV.asPtr, AV.asStr, resVals, ResV.val, oneOr, wants, skipped, fillAt, putAt, capOf, optNat, bnd, Nat.reduceBEq, reduceIte, Nat.reduceAdd, Nat.reduceLeDiff, Nat.reduceEqDiff, Nat.reduceSub, Nat.reduceMul, Nat.reduceDiv, SOper.again, same, sameBlk, sameCap, Nat.reduceBneDiff, s_draw2, s_pair, k_pair, asunder, SOper.into, Bool.not_false, Bool.not_true, h6, h7, h8, h9, h10, h11, hC']
      · have hlt' : ¬ (j : Int) < (y.length : Int) := by omega
        have hc0 : (c : Int) > 0 := by have := hst.resolve_left hlt; omega
        rw [atN_ge (l := y) (by omega), Nat.mul_zero, Nat.add_zero] at hK' hr
        generalize hz : atN U (i + j) = z at *
        have w2 : IntKind.i64.wrap ((z : Int) + (c : Int)) = ((z + c : Nat) : Int) := by rw [wrap64 (by omega) (by omega)]; rfl
        have w4 := quo_nat (a := z + c) (b := 10) (by omega) (by omega)
        have w5 := rem_nat (z + c) 10
        rw [show ((10 : Nat) : Int) = 10 from rfl] at w4 w5
        generalize z + c = d at *
        have hset' := hset (d % 10)
        generalize hC : U.flatMap nat1 = C at *
        generalize hC' : (U.set (i + j) (d % 10)).flatMap nat1 = C' at *
        simp -implicitDefEqProofs only [c23_l0, ↓v_lenS, SB, POp.val, AOp.val, WOp.val, Lite.bin, intBin, strBin, eqv, eqMany, eq1, AV.asBool, AV.asInt, AV.asNat, AV.asPtr, AV.asStr, resVals, ResV.val, oneOr, wants, skipped, fillAt, putAt, capOf, optNat, bnd, Nat.reduceBEq, reduceIte, Nat.reduceAdd, Nat.reduceLeDiff, Nat.reduceEqDiff, Nat.reduceSub, Nat.reduceMul, Nat.reduceDiv, SOper.again, same, sameBlk, sameCap, Nat.reduceBneDiff, s_draw2, s_pair, k_pair, asunder, SOper.into, Bool.not_false, Bool.not_true, CL, BS, Nat.mul_one, h6, h8, h10, h11, h12, h13, g0, hlt', hc0, hpN, hat', hplC, hset', w0, w2, w4, w5, w6, w7, w8]
        refine hK' _ _ ⟨⟨?_, ?_, ?_, ?_, ?_, ?_, ?_⟩, ?_, ?_⟩
        all_goals simp -implicitDefEqProofs only [↓v_lenS, SB, POp.val, AOp.val, WOp.val, Lite.bin, intBin, strBin, eqv, eqMany, eq1, AV.asBool, AV.asInt, AV.asNat, AV.asPtr, AV.asStr, resVals, ResV.val, oneOr, wants, skipped, fillAt, putAt, capOf, optNat, bnd, Nat.reduceBEq, reduceIte, Nat.reduceAdd, Nat.reduceLeDiff, Nat.reduceEqDiff, Nat.reduceSub, Nat.reduceMul, Nat.reduceDiv, SOper.again, same, sameBlk, sameCap, Nat.reduceBneDiff, s_draw2, s_pair, k_pair, asunder, SOper.into, Bool.not_false, Bool.not_true, h6, h7, h8, h9, h10, h11, hC']
    · obtain rfl : j = y.length := by omega
      have hc : (mulIn 10 a y Z i y.length).2 = 0 := by omega
      have hstop := mulIn_stop (i := i) hB ha hy hZ (by omega) hc
      rw [hstop] at hK
      rw [hc] at h12
      have hc0 : ¬ ((0 : Nat) : Int) > 0 := by omega
      simp -implicitDefEqProofs only [c23_l0, ↓v_lenS, SB, POp.val, AOp.val, WOp.val, Lite.bin, intBin, strBin, eqv, eqMany, eq1, AV.asBool, AV.asInt, AV.asNat, AV.asPtr, AV.asStr, resVals, ResV.val, oneOr, wants, skipped, fillAt, putAt, capOf, optNat, bnd, Nat.reduceBEq, reduceIte, Nat.reduceAdd, Nat.reduceLeDiff, Nat.reduceEqDiff, Nat.reduceSub, Nat.reduceMul, Nat.reduceDiv, SOper.again, same, sameBlk, sameCap, Nat.reduceBneDiff, s_draw2, s_pair, k_pair, asunder, SOper.into, Bool.not_false, Bool.not_true, BS, h8, h12, h13, Int.lt_irrefl, hc0, hKe]
      refine hK _ _ ⟨?_, ?_, ?_, ?_, ?_, ?_, g0⟩
      all_goals simp -implicitDefEqProofs only [↓v_lenS, SB, POp.val, AOp.val, WOp.val, Lite.bin, intBin, strBin, eqv, eqMany, eq1, AV.asBool, AV.asInt, AV.asNat, AV.asPtr, AV.asStr, resVals, ResV.val, oneOr, wants, skipped, fillAt, putAt, capOf, optNat, bnd, Nat.reduceBEq, reduceIte, Nat.reduceAdd, Nat.reduceLeDiff, Nat.reduceEqDiff, Nat.reduceSub, Nat.reduceMul, Nat.reduceDiv, SOper.again, same, sameBlk, sameCap, Nat.reduceBneDiff, s_draw2, s_pair, k_pair, asunder, SOper.into, Bool.not_false, Bool.not_true, h6, h7, h8, h9, h10, h11]
  · rintro fr H K' ⟨⟨h6, h7, h8, h9, h10, h11, g0⟩, h12, h13⟩ hKe hKr
    have hc := (mulIn_end (i := i) hB ha hy hZ (by omega) hv).1
    rw [hc] at h12
    have hc0 : ¬ ((0 : Nat) : Int) > 0 := by omega
    have hlt' : ¬ ((y.length + 1 : Nat) : Int) < (y.length : Int) := by omega
    simp -implicitDefEqProofs only [c23_l0, ↓v_lenS, SB, POp.val, AOp.val, WOp.val, Lite.bin, intBin, strBin, eqv, eqMany, eq1, AV.asBool, AV.asInt, AV.asNat, AV.asPtr, AV.asStr, resVals, ResV.val, oneOr, wants, skipped, fillAt, putAt, capOf, optNat, bnd, Nat.reduceBEq, reduceIte, Nat.reduceAdd, Nat.reduceLeDiff, Nat.reduceEqDiff, Nat.reduceSub, Nat.reduceMul, Nat.reduceDiv, SOper.again, same, sameBlk, sameCap, Nat.reduceBneDiff, s_draw2, s_pair, k_pair, asunder, SOper.into, Bool.not_false, Bool.not_true, BS, h8, h12, h13, hlt', hc0, hKe]
    refine hK _ _ ⟨?_, ?_, ?_, ?_, ?_, ?_, g0⟩
    all_goals simp -implicitDefEqProofs only [↓v_lenS, SB, POp.val, AOp.val, WOp.val, Lite.bin, intBin, strBin, eqv, eqMany, eq1, AV.asBool, AV.asInt, AV.asNat, AV.asPtr, AV.asStr, resVals, ResV.val, oneOr, wants, skipped, fillAt, putAt, capOf, optNat, bnd, Nat.reduceBEq, reduceIte, Nat.reduceAdd, Nat.reduceLeDiff, Nat.reduceEqDiff, Nat.reduceSub, Nat.reduceMul, Nat.reduceDiv, SOper.again, same, sameBlk, sameCap, Nat.reduceBneDiff, s_draw2, s_pair, k_pair, asunder, SOper.into, Bool.not_false, Bool.not_true, h6, h7, h8, h9, h10, h11]

theorem mul23 (x y : Int) {k : Nat} (hx : x.natAbs < 10 ^ (k + 1)) (hy : y.natAbs < 10 ^ (k + 1)) (hk : k ≤ 2000) : Ret P4 23 [.str (decZ x), .str (decZ y)] (opT (x * y)) := by
  have hB : 2 ≤ 10 := by omega
  have hl1 := limbs_len_le hB hx
  have hl2 := limbs_len_le hB hy
  have hu1 := limbs_below hB x.natAbs
  have hu2 := limbs_below hB y.natAbs
  have hv1 := lval_limbs hB x.natAbs
  have hv2 := lval_limbs hB y.natAbs
  have d1 := digits40 x hx hk
  have d2 := digits40 y hy hk
  have hmv : valZ (!(decide (x < 0) == decide (y < 0))) (x.natAbs * y.natAbs) = x * y := mul_val x y
  generalize limbs 10 x.natAbs = X at *
  generalize limbs 10 y.natAbs = Y at *
  have hok := mulOut_ok hB hu1 hu2
  have hfin := hok X.length (Nat.le_refl _)
  rw [List.take_of_length_le (Nat.le_refl _), hv1, hv2] at hfin
  have htx := text41 true (!(decide (x < 0) == decide (y < 0))) (mulOut 10 X Y X.length) hfin.2.1 (by rw [hfin.1]; omega)
  rw [hfin.2.2, hmv] at htx
  refine Ret.of rfl (code23 _ _) rfl rfl (fun H => by simp -implicitDefEqProofs only [↓v_lenS, SB, POp.val, AOp.val, WOp.val, Lite.bin, intBin, strBin, eqv, eqMany, eq1, AV.asBool, AV.asInt, AV.asNat, AV.asPtr, AV.asStr, resVals, ResV.val, oneOr, wants, skipped, fillAt, putAt, capOf, optNat, bnd, Nat.reduceBEq, reduceIte, Nat.reduceAdd, Nat.reduceLeDiff, Nat.reduceEqDiff, Nat.reduceSub, Nat.reduceMul, Nat.reduceDiv, SOper.again, same, sameBlk, sameCap, Nat.reduceBneDiff, s_draw2, s_pair, k_pair, asunder, SOper.into, Bool.not_false, Bool.not_true]) ?_
  refine (d1.and (d2.and (htx.and (Ev.ge (X.length + Y.length + 20))))).mono fun n e H => ?_
  obtain ⟨e1, e2, e3, hge⟩ := e
  unfold opT at e3 ⊢
  have w0 : IntKind.i64.wrap ((X.length : Int) + (Y.length : Int)) = ((X.length + Y.length : Nat) : Int) := wrap_nat (by omega)
  have w1 : IntKind.i64.wrap (((X.length + Y.length : Nat) : Int) + 1) = ((X.length + Y.length + 1 : Nat) : Int) := wrap_succ (n := X.length + Y.length + 1) (by omega) (by omega)
  have c1 : (X.length + Y.length + 1) * 8 ≤ 1099511627776 ∧ X.length + Y.length + 1 ≤ 1099511627776 := by omega
  simp -implicitDefEqProofs only [c23, ↓v_lenS, SB, POp.val, AOp.val, WOp.val, Lite.bin, intBin, strBin, eqv, eqMany, eq1, AV.asBool, AV.asInt, AV.asNat, AV.asPtr, AV.asStr, resVals, ResV.val, oneOr, wants, skipped, fillAt, putAt, capOf, optNat, bnd, Nat.reduceBEq, reduceIte, Nat.reduceAdd, Nat.reduceLeDiff, Nat.reduceEqDiff, Nat.reduceSub, Nat.reduceMul, Nat.reduceDiv, SOper.again, same, sameBlk, sameCap, Nat.reduceBneDiff, s_draw2, s_pair, k_pair, asunder, SOper.into, Bool.not_false, Bool.not_true, CL, BS, e1, e2, w0, w1, c1.1, c1.2, rep_zeros]
  refine loop_gen (fun e fr H => e = .exit 0 ∧ MR (decide (x < 0)) (decide (y < 0)) X Y (mulOut 10 X Y X.length) X.length fr H) ?_ fun KK fin => ?_
  · rintro e fr H ⟨rfl, h6, h7, h8, h9, h10, h11, g0⟩
    have hsh := made_shut (by rw [hfin.1]; omega) g0
    rw [hfin.1] at hsh
    simp -implicitDefEqProofs only [↓v_lenS, SB, POp.val, AOp.val, WOp.val, Lite.bin, intBin, strBin, eqv, eqMany, eq1, AV.asBool, AV.asInt, AV.asNat, AV.asPtr, AV.asStr, resVals, ResV.val, oneOr, wants, skipped, fillAt, putAt, capOf, optNat, bnd, Nat.reduceBEq, reduceIte, Nat.reduceAdd, Nat.reduceLeDiff, Nat.reduceEqDiff, Nat.reduceSub, Nat.reduceMul, Nat.reduceDiv, SOper.again, same, sameBlk, sameCap, Nat.reduceBneDiff, s_draw2, s_pair, k_pair, asunder, SOper.into, Bool.not_false, Bool.not_true, CL, BS, k_blockE, h7, h9, h10, hsh, e3, gives_ret]
    exact ⟨_, rfl⟩
  · refine loop_rounds X.length (fun i fr H => MR (decide (x < 0)) (decide (y < 0)) X Y (mulOut 10 X Y i) i fr H) ?_ ?_ n 0 _ _ (by omega) (by omega) ?_
    · rintro i fr H K' hi ⟨h6, h7, h8, h9, h10, h11, g0⟩ hKe hKr hK
      obtain ⟨q1, q2, q3⟩ := hok i (by omega)
      have hsm := mul_small hB hu1 hu2 (i := i) (by omega) q3
      have hlt : (i : Int) < (X.length : Int) := by omega
      have hw := wrap_succ (i := i) (n := X.length) hi (by omega)
      simp -implicitDefEqProofs only [c23_l1, ↓v_lenS, SB, POp.val, AOp.val, WOp.val, Lite.bin, intBin, strBin, eqv, eqMany, eq1, AV.asBool, AV.asInt, AV.asNat, AV.asPtr, AV.asStr, resVals, ResV.val, oneOr, wants, skipped, fillAt, putAt, capOf, optNat, bnd, Nat.reduceBEq, reduceIte, Nat.reduceAdd, Nat.reduceLeDiff, Nat.reduceEqDiff, Nat.reduceSub, Nat.reduceMul, Nat.reduceDiv, SOper.again, same, sameBlk, sameCap, Nat.reduceBneDiff, s_draw2, s_pair, k_pair, asunder, SOper.into, Bool.not_false, Bool.not_true, CL, BS, h6, h11, hlt]
      refine mulR_l0 (Z := mulOut 10 X Y i) (i := i) (p := decide (x < 0)) (q := decide (y < 0)) (x := X) (y := Y) hu1 hu2 q2 hi q1 hsm (by omega) (by omega) (by omega) ⟨?_, ?_, ?_, ?_, ?_, ?_, g0⟩ ?_ ?_ ?_
      any_goals simp -implicitDefEqProofs only [↓v_lenS, SB, POp.val, AOp.val, WOp.val, Lite.bin, intBin, strBin, eqv, eqMany, eq1, AV.asBool, AV.asInt, AV.asNat, AV.asPtr, AV.asStr, resVals, ResV.val, oneOr, wants, skipped, fillAt, putAt, capOf, optNat, bnd, Nat.reduceBEq, reduceIte, Nat.reduceAdd, Nat.reduceLeDiff, Nat.reduceEqDiff, Nat.reduceSub, Nat.reduceMul, Nat.reduceDiv, SOper.again, same, sameBlk, sameCap, Nat.reduceBneDiff, s_draw2, s_pair, k_pair, asunder, SOper.into, Bool.not_false, Bool.not_true, h6, h7, h8, h9, h10, h11]
      any_goals rfl
      rintro fr H ⟨h6, h7, h8, h9, h10, h11, g0⟩
      simp -implicitDefEqProofs only [↓v_lenS, SB, POp.val, AOp.val, WOp.val, Lite.bin, intBin, strBin, eqv, eqMany, eq1, AV.asBool, AV.asInt, AV.asNat, AV.asPtr, AV.asStr, resVals, ResV.val, oneOr, wants, skipped, fillAt, putAt, capOf, optNat, bnd, Nat.reduceBEq, reduceIte, Nat.reduceAdd, Nat.reduceLeDiff, Nat.reduceEqDiff, Nat.reduceSub, Nat.reduceMul, Nat.reduceDiv, SOper.again, same, sameBlk, sameCap, Nat.reduceBneDiff, s_draw2, s_pair, k_pair, asunder, SOper.into, Bool.not_false, Bool.not_true, k_blockE, h11, hw]
      refine hK _ _ ⟨?_, ?_, ?_, ?_, ?_, ?_, g0⟩
      all_goals simp -implicitDefEqProofs only [↓v_lenS, SB, POp.val, AOp.val, WOp.val, Lite.bin, intBin, strBin, eqv, eqMany, eq1, AV.asBool, AV.asInt, AV.asNat, AV.asPtr, AV.asStr, resVals, ResV.val, oneOr, wants, skipped, fillAt, putAt, capOf, optNat, bnd, Nat.reduceBEq, reduceIte, Nat.reduceAdd, Nat.reduceLeDiff, Nat.reduceEqDiff, Nat.reduceSub, Nat.reduceMul, Nat.reduceDiv, SOper.again, same, sameBlk, sameCap, Nat.reduceBneDiff, s_draw2, s_pair, k_pair, asunder, SOper.into, Bool.not_false, Bool.not_true, h6, h7, h8, h9, h10]
    · rintro fr H K' ⟨h6, h7, h8, h9, h10, h11, g0⟩ hKe hKr
      simp -implicitDefEqProofs only [c23_l1, ↓v_lenS, SB, POp.val, AOp.val, WOp.val, Lite.bin, intBin, strBin, eqv, eqMany, eq1, AV.asBool, AV.asInt, AV.asNat, AV.asPtr, AV.asStr, resVals, ResV.val, oneOr, wants, skipped, fillAt, putAt, capOf, optNat, bnd, Nat.reduceBEq, reduceIte, Nat.reduceAdd, Nat.reduceLeDiff, Nat.reduceEqDiff, Nat.reduceSub, Nat.reduceMul, Nat.reduceDiv, SOper.again, same, sameBlk, sameCap, Nat.reduceBneDiff, s_draw2, s_pair, k_pair, asunder, SOper.into, Bool.not_false, Bool.not_true, BS, h6, h11, Int.lt_irrefl, hKe]
      refine fin _ _ _ ⟨rfl, ?_, ?_, ?_, ?_, ?_, ?_, g0⟩
      all_goals simp -implicitDefEqProofs only [↓v_lenS, SB, POp.val, AOp.val, WOp.val, Lite.bin, intBin, strBin, eqv, eqMany, eq1, AV.asBool, AV.asInt, AV.asNat, AV.asPtr, AV.asStr, resVals, ResV.val, oneOr, wants, skipped, fillAt, putAt, capOf, optNat, bnd, Nat.reduceBEq, reduceIte, Nat.reduceAdd, Nat.reduceLeDiff, Nat.reduceEqDiff, Nat.reduceSub, Nat.reduceMul, Nat.reduceDiv, SOper.again, same, sameBlk, sameCap, Nat.reduceBneDiff, s_draw2, s_pair, k_pair, asunder, SOper.into, Bool.not_false, Bool.not_true, h6, h7, h8, h9, h10, h11]
    · refine ⟨?_, ?_, ?_, ?_, ?_, ?_, ?_⟩
      all_goals simp -implicitDefEqProofs only [↓v_lenS, SB, POp.val, AOp.val, WOp.val, Lite.bin, intBin, strBin, eqv, eqMany, eq1, AV.asBool, AV.asInt, AV.asNat, AV.asPtr, AV.asStr, resVals, ResV.val, oneOr, wants, skipped, fillAt, putAt, capOf, optNat, bnd, Nat.reduceBEq, reduceIte, Nat.reduceAdd, Nat.reduceLeDiff, Nat.reduceEqDiff, Nat.reduceSub, Nat.reduceMul, Nat.reduceDiv, SOper.again, same, sameBlk, sameCap, Nat.reduceBneDiff, s_draw2, s_pair, k_pair, asunder, SOper.into, Bool.not_false, Bool.not_true]
      all_goals rfl

end Go.Lite
