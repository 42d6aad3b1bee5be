/- The row of the law BigOrder, and its card: what its call does, from the interpreter's run; what it lists, tied to the program's text. -/
import Derived.Test.YtpnbhbacpkoddaaDoorQbC
import Derived.Test.YtpnbhbacpkoddaaDoorTie
import Derived.Test.YtpnbhbacpkoddaaDoorCards
import Derived.WalkKit
import Derived.ProofKit
import Derived.OpenShut
import Derived.ShutString
import Derived.ChangeOld
import Derived.Below
import Derived.SizedLaws
import Derived.HandedShaped
import Derived.Carry
import Derived.SevenTiedAt

/-
  The law BigOrder.
-/
namespace Go.Lite
open Go Go.Proofs
set_option maxRecDepth 100000
set_option linter.unusedSimpArgs false
set_option linter.unusedVariables false

theorem opT_small {z : Int} (h : z.natAbs < 10 ^ 200) : opT z = .tuple [.str (decZ z), .bool true] := by
  unfold opT opZ; rw [if_pos h, decide_eq_true h]
theorem decZ_nil (z : Int) : (decZ z == ([] : List Nat)) = false := by simpa using decZ_ne z
theorem decZ_eq0 (z : Int) : (decZ z == ([48] : List Nat)) = decide (z = 0) := by
  have h0 : decZ 0 = [48] := by simp [decZ, decN_small]
  by_cases h : z = 0
  · subst h; rw [h0]; rfl
  · rw [decide_eq_false h]
    have : decZ z ≠ [48] := fun e => h (decZ_inj (e.trans h0.symm))
    simpa using this
theorem decZ_head (z : Int) : ∃ c t, decZ z = c :: t ∧ c < 256 ∧ ((c : Int) == 45) = decide (z < 0) := by
  have h := negS_decZ z
  cases hd : decZ z with
  | nil => exact absurd hd (decZ_ne z)
  | cons c t =>
    rw [hd] at h
    refine ⟨c, t, rfl, ?_, ?_⟩
    · unfold decZ at hd
      split at hd
      · simp at hd; omega
      · have := decN_256 z.natAbs c (by rw [hd]; simp); omega
    · rw [← h]
      by_cases hc : c = 45
      · subst hc; rfl
      · have h1 : ((c : Int) == 45) = false := by simp; omega
        have h2 : (c == 45) = false := by simpa using hc
        rw [h1]; simp only [negS, h2]
theorem decZ_beq (a b : Int) : (decZ a == decZ b) = decide (a = b) := by
  by_cases h : a = b
  · subst h; simp
  · rw [decide_eq_false h]
    simpa using fun e => h (decZ_inj e)
theorem sgn_trans {x y z : Int} (h : x ≤ y) (hyz : ¬ sgn (y - z) > 0) : sgn (x - z) ≤ 0 := by
  have h1 : ¬ 0 < y - z := fun h => hyz (by rw [sgn_pos h]; omega)
  unfold sgn
  split
  · omega
  · rw [if_neg (by omega)]; omega

theorem law4 (f0 f1 f2 : Bool) (k0 k1 k2 : List Int) (b0 b1 : Bool) (h0 : k0.length ≤ 9223372036854775807) (h1 : k1.length ≤ 9223372036854775807) (h2 : k2.length ≤ 9223372036854775807) : Ret P4 4 [vI f0 k0, vI f1 k1, vI f2 k2, .bool b0, .bool b1] (.bool true) := by
  refine Ret.of rfl (code4 _ _) rfl rfl (fun H => by simp -implicitDefEqProofs only [↓v_lenS, SB, POp.val, AOp.val, WOp.val, Lite.bin, intBin, strBin, eqv, eqMany, eq1, AV.asBool, AV.asInt, AV.asNat, AV.asPtr, AV.asStr, resVals, ResV.val, oneOr, wants, skipped, fillAt, putAt, capOf, optNat, bnd, Nat.reduceBEq, reduceIte, Nat.reduceAdd, Nat.reduceLeDiff, Nat.reduceEqDiff, Nat.reduceSub, Nat.reduceMul, Nat.reduceDiv, SOper.again, same, sameBlk, sameCap, Nat.reduceBneDiff, s_draw2, s_pair, k_pair, asunder, SOper.into, Bool.not_false, Bool.not_true, IS]) ?_
  have n0 := num14 f0 k0 90 b0 h0 (by omega)
  have n1 := num14 f1 k1 90 b1 h1 (by omega)
  have n2 := num14 f2 k2 90 b0 h2 (by omega)
  have l0 := numZ_lt k0 90 b0
  have l1 := numZ_lt k1 90 b1
  have l2 := numZ_lt k2 90 b0
  generalize numZ k0 90 b0 = x at *
  generalize numZ k1 90 b1 = y at *
  generalize numZ k2 90 b0 = z at *
  have s1 := sub18 x y l0 l1 (by omega)
  have p90 : (10 : Nat) ^ 90 + 10 ^ 90 ≤ 10 ^ 200 := by decide
  rw [opT_small (by omega)] at s1
  refine (known13.and (n0.and (n1.and (n2.and (s1.and ((cmp19 x y l0 l1 (by omega)).and ((cmp19 y x l1 l0 (by omega)).and ((cmp19 y z l1 l2 (by omega)).and (cmp19 x z l0 l2 (by omega)))))))))).mono fun n e H => ?_
  obtain ⟨e0, e1, e2, e3, e4, e5, e6, e7, e8⟩ := e
  have hE := decZ_nil (x - y)
  have hZ := decZ_eq0 (x - y)
  have hN := decZ_beq x y
  obtain ⟨c, t, hd, hc, h45⟩ := decZ_head (x - y)
  rw [hd] at e4 hE hZ
  have e90 : ((90 : Nat) : Int) = 90 := rfl
  rw [e90] at e1 e2 e3
  generalize decZ x = sx at *
  generalize decZ y = sy at *
  generalize decZ z = sz at *
  rcases Int.lt_trichotomy (x - y) 0 with hlt | heq | hgt
  · have g1 := sgn_neg hlt
    have g2 : sgn (y - x) = 1 := sgn_pos (by omega)
    rw [g1] at e5; rw [g2] at e6
    rw [decide_eq_false (by omega)] at hZ
    rw [decide_eq_true hlt] at h45
    rw [decide_eq_false (by omega)] at hN
    have w1 : ((-1 : Int) == -1) = true := rfl
    have w2 : IntKind.i64.wrap (0 - (-1)) = 1 := by rw [wrap64 (by omega) (by omega)]; rfl
    have w3 : ((1 : Int) == 1) = true := rfl
    have w4 : ¬ (-1 : Int) > 0 := by omega
    have w5 : ((-1 : Int) != 0) = true := rfl
    by_cases hyz : sgn (y - z) > 0
    · simp -implicitDefEqProofs only [c4, ↓v_lenS, SB, POp.val, AOp.val, WOp.val, Lite.bin, intBin, strBin, eqv, eqMany, eq1, AV.asBool, AV.asInt, AV.asNat, AV.asPtr, AV.asStr, resVals, ResV.val, oneOr, wants, skipped, fillAt, putAt, capOf, optNat, bnd, Nat.reduceBEq, reduceIte, Nat.reduceAdd, Nat.reduceLeDiff, Nat.reduceEqDiff, Nat.reduceSub, Nat.reduceMul, Nat.reduceDiv, SOper.again, same, sameBlk, sameCap, Nat.reduceBneDiff, s_draw2, s_pair, k_pair, asunder, SOper.into, Bool.not_false, Bool.not_true, CL, IS, e0, e1, e2, e3, e4, e5, e6, e7, e8, hd, hE, hZ, h45, hN, w1, w2, w3, w4, w5, hyz, i_toNat0, i_le0, Ends, gives_ret]
      exact ⟨_, rfl⟩
    · have hxz : sgn (x - z) ≤ 0 := sgn_trans (by omega) hyz
      simp -implicitDefEqProofs only [c4, ↓v_lenS, SB, POp.val, AOp.val, WOp.val, Lite.bin, intBin, strBin, eqv, eqMany, eq1, AV.asBool, AV.asInt, AV.asNat, AV.asPtr, AV.asStr, resVals, ResV.val, oneOr, wants, skipped, fillAt, putAt, capOf, optNat, bnd, Nat.reduceBEq, reduceIte, Nat.reduceAdd, Nat.reduceLeDiff, Nat.reduceEqDiff, Nat.reduceSub, Nat.reduceMul, Nat.reduceDiv, SOper.again, same, sameBlk, sameCap, Nat.reduceBneDiff, s_draw2, s_pair, k_pair, asunder, SOper.into, Bool.not_false, Bool.not_true, CL, IS, e0, e1, e2, e3, e4, e5, e6, e7, e8, hd, hE, hZ, h45, hN, w1, w2, w3, w4, w5, hyz, hxz, i_toNat0, i_le0, Ends, gives_ret]
      exact ⟨_, rfl⟩
  · have g1 : sgn (x - y) = 0 := by rw [heq]; rfl
    have g2 : sgn (y - x) = 0 := by rw [show y - x = 0 by omega]; rfl
    rw [g1] at e5; rw [g2] at e6
    rw [decide_eq_true heq] at hZ
    rw [decide_eq_true (by omega)] at hN
    have w1 : ((0 : Int) == 0) = true := rfl
    have w2 : IntKind.i64.wrap (0 - 0) = 0 := by rw [wrap64 (by omega) (by omega)]; rfl
    have w4 : ¬ (0 : Int) > 0 := by omega
    have w5 : ((0 : Int) != 0) = false := rfl
    by_cases hyz : sgn (y - z) > 0
    · simp -implicitDefEqProofs only [c4, ↓v_lenS, SB, POp.val, AOp.val, WOp.val, Lite.bin, intBin, strBin, eqv, eqMany, eq1, AV.asBool, AV.asInt, AV.asNat, AV.asPtr, AV.asStr, resVals, ResV.val, oneOr, wants, skipped, fillAt, putAt, capOf, optNat, bnd, Nat.reduceBEq, reduceIte, Nat.reduceAdd, Nat.reduceLeDiff, Nat.reduceEqDiff, Nat.reduceSub, Nat.reduceMul, Nat.reduceDiv, SOper.again, same, sameBlk, sameCap, Nat.reduceBneDiff, s_draw2, s_pair, k_pair, asunder, SOper.into, Bool.not_false, Bool.not_true, CL, IS, e0, e1, e2, e3, e4, e5, e6, e7, e8, hd, hE, hZ, h45, hN, w1, w2, w4, w5, hyz, i_toNat0, i_le0, Ends, gives_ret]
      exact ⟨_, rfl⟩
    · have hxz : sgn (x - z) ≤ 0 := sgn_trans (by omega) hyz
      simp -implicitDefEqProofs only [c4, ↓v_lenS, SB, POp.val, AOp.val, WOp.val, Lite.bin, intBin, strBin, eqv, eqMany, eq1, AV.asBool, AV.asInt, AV.asNat, AV.asPtr, AV.asStr, resVals, ResV.val, oneOr, wants, skipped, fillAt, putAt, capOf, optNat, bnd, Nat.reduceBEq, reduceIte, Nat.reduceAdd, Nat.reduceLeDiff, Nat.reduceEqDiff, Nat.reduceSub, Nat.reduceMul, Nat.reduceDiv, SOper.again, same, sameBlk, sameCap, Nat.reduceBneDiff, s_draw2, s_pair, k_pair, asunder, SOper.into, Bool.not_false, Bool.not_true, CL, IS, e0, e1, e2, e3, e4, e5, e6, e7, e8, hd, hE, hZ, h45, hN, w1, w2, w4, w5, hyz, hxz, i_toNat0, i_le0, Ends, gives_ret]
      exact ⟨_, rfl⟩
  · have g1 := sgn_pos hgt
    have g2 : sgn (y - x) = -1 := sgn_neg (by omega)
    rw [g1] at e5; rw [g2] at e6
    rw [decide_eq_false (by omega)] at hZ
    rw [decide_eq_false (by omega)] at h45
    rw [decide_eq_false (by omega)] at hN
    have w1 : ((-1 : Int) == -1) = true := rfl
    have w2 : IntKind.i64.wrap (0 - 1) = -1 := by rw [wrap64 (by omega) (by omega)]; rfl
    have w3 : ((1 : Int) == 1) = true := rfl
    have w4 : (1 : Int) > 0 := by omega
    have w5 : ((1 : Int) != 0) = true := rfl
    simp -implicitDefEqProofs only [c4, ↓v_lenS, SB, POp.val, AOp.val, WOp.val, Lite.bin, intBin, strBin, eqv, eqMany, eq1, AV.asBool, AV.asInt, AV.asNat, AV.asPtr, AV.asStr, resVals, ResV.val, oneOr, wants, skipped, fillAt, putAt, capOf, optNat, bnd, Nat.reduceBEq, reduceIte, Nat.reduceAdd, Nat.reduceLeDiff, Nat.reduceEqDiff, Nat.reduceSub, Nat.reduceMul, Nat.reduceDiv, SOper.again, same, sameBlk, sameCap, Nat.reduceBneDiff, s_draw2, s_pair, k_pair, asunder, SOper.into, Bool.not_false, Bool.not_true, CL, IS, e0, e1, e2, e3, e4, e5, e6, e7, e8, hd, hE, hZ, h45, hN, w1, w2, w3, w4, w5, i_toNat0, i_le0, Ends, gives_ret]
    exact ⟨_, rfl⟩

end Go.Lite

/- The row of the law BigOrder, and its card: what its call does, from the interpreter's run; what it lists, tied to the program's text. -/
namespace Go.Proofs.YtpnbhbacpkoddaaDoor.bigOrder
open Go.ChangeShapes Go.WideShapes Go.ChangeAt Go.RowKit Go.Lite
open Go.ChangeMaps (open_string shut_string)
set_option linter.unusedVariables false
set_option maxRecDepth 100000
theorem own : ownKnob Tryd.prog.godebug = none := by kernel_rfl
theorem laidOut : laidOutB Tryd.prog = true := by kernel_rfl
theorem laid_met (os : Os) : laidMet Tryd.prog Rows.bigOrderRow.laid ((laidWorld Tryd.prog os [(2, Rows.laid_math_bits_deBruijn32tab), (3, Rows.laid_math_bits_deBruijn64tab), (0, Rows.laid_internal_strconv_uint64pow10)]).forCall (fun _ _ => 0) ⟨#[], #[.slice none 0 0, .slice none 0 0, .slice none 0 0, .bool false, .bool false], []⟩).memory :=
  laidMet_of_run' 8 (by kernel_rfl) (by kernel_rfl)
theorem lifted (os : Os) (started : os.Started) (H : Type) (enc : TypeId × Value → H) :
    ReturnsInHanded {} Tryd.checked os 4 .any (fun w args => (Rows.bigOrderSpec.pre enc Tryd.prog Tryd.f4 Rows.bigOrderRow.domain false w args ∧ laidMet Tryd.prog Rows.bigOrderRow.laid w) ∧ sizedMet enc Tryd.prog Tryd.f4 (OpenSpec.ofChange Rows.bigOrderSpec) false w args) (Rows.bigOrderSpec.post enc Tryd.prog Tryd.f4 false true false false) := by
  refine returns_laid (C := Tryd.checked) (X := fun w _ => laidMet Tryd.prog Rows.bigOrderRow.laid w) own started (by kernel_rfl) Tryd.func4
    (ChangeSpec.witness_at (enc := enc) (C := Tryd.checked) (os := os) (X := fun w _ => laidMet Tryd.prog Rows.bigOrderRow.laid w) false (laidWorld Tryd.prog os [(2, Rows.laid_math_bits_deBruijn32tab), (3, Rows.laid_math_bits_deBruijn64tab), (0, Rows.laid_internal_strconv_uint64pow10)]) #[.slice none 0 0, .slice none 0 0, .slice none 0 0, .bool false, .bool false] 8 rfl (by kernel_rfl) (by kernel_rfl) (by kernel_rfl) (by kernel_rfl) (by kernel_rfl) (laid_met os)) ?_
  intro W base args ds gs before hval0 hW hcnd hsz0 hsh hlx _
  have hsz : (DataW.weightsEach Tryd.prog (Tryd.f4.params.toList ++ Rows.bigOrderSpec.plain.varTypes Tryd.prog) (ds ++ gs)).all (· ≤ reachBytes) = true := hsz0
  have hval : ∀ (j : Nat) t v, Tryd.f4.params[j]? = some t → args[j]? = some v → Value.okWide Tryd.prog W .any base t v := hval0
  have hW' := hW
  obtain ⟨p, q, hA0, hV, rfl, hfz, hnd⟩ := hW
  have hA : DataW.TrodAll enc Tryd.prog W 0 (fun _ => true) true Tryd.f4.params.toList args.toList ds p := hA0
  rw [Tryd.params4] at hA hval hsz
  obtain ⟨v0, vs0, d0, ds0, p0, q0, hargs, rfl, rfl, h0, r0⟩ := trodAll_cons hA
  obtain ⟨v1, vs1, d1, ds1, p1, q1, rfl, rfl, rfl, h1, r1⟩ := trodAll_cons r0
  obtain ⟨v2, vs2, d2, ds2, p2, q2, rfl, rfl, rfl, h2, r2⟩ := trodAll_cons r1
  obtain ⟨v3, vs3, d3, ds3, p3, q3, rfl, rfl, rfl, h3, r3⟩ := trodAll_cons r2
  obtain ⟨v4, vs4, d4, ds4, p4, q4, rfl, rfl, rfl, h4, r4⟩ := trodAll_cons r3
  obtain ⟨rfl, rfl, rfl⟩ := trodAll_nil r4
  obtain rfl : args = #[v0, v1, v2, v3, v4] := by cases args; simp_all
  obtain ⟨rfl, rfl⟩ := trodVars_none hV
  have k0 := h0
  have lt0 : ∀ x ∈ p0, x.block < W.heap.size := by obtain ⟨m, hm⟩ := k0; exact DataW.trod_lt m _ _ _ hm
  have o0 := (hval 0 22 v0 rfl rfl)
  obtain ⟨z0, n0, c0, rfl⟩ := okWide_slice Tryd.underlying22 o0
  obtain ⟨g0, y0⟩ := h0
  obtain ⟨a0, w0, e0⟩ := open_ints Tryd.underlying22 Tryd.underlying3 (by kernel_rfl) (u := .slice z0 n0 c0) (by simpa [Value.cells] using y0)
  have k1 := h1
  have lt1 : ∀ x ∈ p1, x.block < W.heap.size := by obtain ⟨m, hm⟩ := k1; exact DataW.trod_lt m _ _ _ hm
  have o1 := (hval 1 22 v1 rfl rfl)
  obtain ⟨z1, n1, c1, rfl⟩ := okWide_slice Tryd.underlying22 o1
  obtain ⟨g1, y1⟩ := h1
  obtain ⟨a1, w1, e1⟩ := open_ints Tryd.underlying22 Tryd.underlying3 (by kernel_rfl) (u := .slice z1 n1 c1) (by simpa [Value.cells] using y1)
  have k2 := h2
  have lt2 : ∀ x ∈ p2, x.block < W.heap.size := by obtain ⟨m, hm⟩ := k2; exact DataW.trod_lt m _ _ _ hm
  have o2 := (hval 2 22 v2 rfl rfl)
  obtain ⟨z2, n2, c2, rfl⟩ := okWide_slice Tryd.underlying22 o2
  obtain ⟨g2, y2⟩ := h2
  obtain ⟨a2, w2, e2⟩ := open_ints Tryd.underlying22 Tryd.underlying3 (by kernel_rfl) (u := .slice z2 n2 c2) (by simpa [Value.cells] using y2)
  obtain ⟨a3, rfl, rfl, rfl⟩ := open_bool Tryd.underlying4 (hval 3 4 v3 rfl rfl) h3
  obtain ⟨a4, rfl, rfl, rfl⟩ := open_bool Tryd.underlying4 (hval 4 4 v4 rfl rfl) h4
  refine (calls_of_ret hsh (tab_of_laid hlx) (law4 _ _ _ a0 a1 a2 a3 a4 w0 w1 w2) (by simp only [VRels]; exact ⟨_, _, rfl, e0, _, _, rfl, e1, _, _, rfl, e2, _, _, rfl, rfl, _, _, rfl, rfl, rfl⟩)).mono fun e W' ⟨he, bel⟩ => ?_
  subst he
  exact ⟨_, rfl, _, _, _, [], _, [], hW', trodAll_mk1 (shut_bool Tryd.underlying4 _), (trodAll_cons_mk (Below.trod laidOut (by kernel_rfl) (of_decide_eq_true (by kernel_rfl)) k0 bel lt0) (trodAll_cons_mk (Below.trod laidOut (by kernel_rfl) (of_decide_eq_true (by kernel_rfl)) k1 bel lt1) (trodAll_cons_mk (Below.trod laidOut (by kernel_rfl) (of_decide_eq_true (by kernel_rfl)) k2 bel lt2) (trodAll_cons_mk (shut_bool Tryd.underlying4 _) (trodAll_cons_mk (shut_bool Tryd.underlying4 _) trodAll_mk0))))), rfl, bel.frame _, fun h => by cases h⟩
theorem over : Rows.bigOrderRow.holds Tryd.pinned (OpenSpec.ofChange Rows.bigOrderSpec) :=
  OpenClaim.holds_of_wide 4 Tryd.f4 rfl rfl rfl rfl rfl rfl rfl ⟨rfl, rfl, rfl, rfl, rfl⟩ rfl rfl rfl rfl rfl (by kernel_rfl) Tryd.func4 (by kernel_rfl)
    (of_decide_eq_true (by kernel_rfl)) (by unfold Func.isWrapper; first | (rw [if_pos (by decide +kernel)]; kernel_rfl) | (rw [if_neg (by decide +kernel)]; exact ⟨rfl, rfl⟩))
    (fun os started H enc _ => lifted os started H enc)
theorem card : Rows.BigOrderCardSaid :=
  Claim7.holds_tied_plain_at .later [] [.data, .data, .data] true (true, "3f6c65230efcc366f875a5b532b9a48e131542a205115071931acd097d8d462f") false over (fun _ h => by cases h) (by kernel_rfl) (fun _ h => by cases h) bigOrder_row_tie rfl ⟨rfl, rfl⟩ (by kernel_rfl) (by first | rfl | decide)
    (fun f fn h1 h2 => by
      obtain rfl : f = 4 := Option.some.inj (h1.symm.trans (by kernel_rfl))
      obtain rfl : fn = Tryd.f4 := Option.some.inj (h2.symm.trans Tryd.func4)
      refine ⟨by kernel_rfl, fun j t hj => ?_⟩
      rw [Tryd.params4] at hj
      match j, hj with
      | 0, hj =>
        obtain rfl : t = 22 := by simpa using hj.symm
        exact (by kernel_rfl : Tryd.pinned.checked.prog.wantsStandIn 22 = false)
      | 1, hj =>
        obtain rfl : t = 22 := by simpa using hj.symm
        exact (by kernel_rfl : Tryd.pinned.checked.prog.wantsStandIn 22 = false)
      | 2, hj =>
        obtain rfl : t = 22 := by simpa using hj.symm
        exact (by kernel_rfl : Tryd.pinned.checked.prog.wantsStandIn 22 = false)
      | 3, hj =>
        obtain rfl : t = 4 := by simpa using hj.symm
        exact (by kernel_rfl : Tryd.pinned.checked.prog.wantsStandIn 4 = false)
      | 4, hj =>
        obtain rfl : t = 4 := by simpa using hj.symm
        exact (by kernel_rfl : Tryd.pinned.checked.prog.wantsStandIn 4 = false)
      | j + 5, hj => simp at hj)
    (by kernel_rfl)
#print axioms card
end Go.Proofs.YtpnbhbacpkoddaaDoor.bigOrder
namespace Go.Proofs.YtpnbhbacpkoddaaDoor
/-- The card, under a short name, for the claim. -/
theorem bigOrder_holds : Rows.BigOrderCardSaid := bigOrder.card
end Go.Proofs.YtpnbhbacpkoddaaDoor
