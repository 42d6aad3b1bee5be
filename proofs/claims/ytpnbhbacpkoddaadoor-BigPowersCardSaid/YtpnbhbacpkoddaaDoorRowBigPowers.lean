/- The row of the law BigPowers, and its card: what its call does, from the interpreter's run; what it lists, tied to the program's text. -/
import Derived.Test.YtpnbhbacpkoddaaDoorQbG
import Derived.Test.YtpnbhbacpkoddaaDoorQbC
import Derived.Test.YtpnbhbacpkoddaaDoorTie
import Derived.Test.YtpnbhbacpkoddaaDoorCards
import Derived.WalkKit
import Derived.ProofKit
import Derived.OpenShut
import Derived.ShutString
import Derived.ChangeOld
import Derived.Below
import Derived.SizedLaws
import Derived.HandedShaped
import Derived.Carry
import Derived.SevenTiedAt

/-
  The law BigPowers.
-/
namespace Go.Lite
open Go Go.Proofs
set_option maxRecDepth 100000
set_option linter.unusedSimpArgs false
set_option linter.unusedVariables false

theorem pow2_gen (i c : Nat) (hc : c ≠ 0) (hi : i ≤ 3 * c) : (2 : Nat) ^ i < 10 ^ (2 * c) := by
  have h1 : (2 : Nat) ^ i ≤ 2 ^ (3 * c) := Nat.pow_le_pow_right (by omega) hi
  rw [Nat.pow_mul] at h1
  have h2 : ((2 : Nat) ^ 3) ^ c < (10 ^ 2) ^ c := Nat.pow_lt_pow_left (by decide) hc
  have h3 : (10 : Nat) ^ (2 * c) = (10 ^ 2) ^ c := Nat.pow_mul 10 2 c
  rw [h3]
  exact Nat.lt_of_le_of_lt h1 h2

theorem pow2_lt {t : Int} (ht : t.natAbs = 2) : ∀ i, i ≤ 300 → (t ^ i).natAbs < 10 ^ 200 := fun i hi => by
  rw [Int.natAbs_pow, ht]
  exact pow2_gen i 100 (by omega) (by omega)

theorem law9 (k : Int) (b : Bool) : Ret P4 9 [.int .i64 k, .bool b] (.bool true) := by
  refine Ret.of rfl (code9 _ _) rfl rfl (fun H => by simp -implicitDefEqProofs only [↓v_lenS, SB, POp.val, AOp.val, WOp.val, Lite.bin, intBin, strBin, eqv, eqMany, eq1, AV.asBool, AV.asInt, AV.asNat, AV.asPtr, AV.asStr, resVals, ResV.val, oneOr, wants, skipped, fillAt, putAt, capOf, optNat, bnd, Nat.reduceBEq, reduceIte, Nat.reduceAdd, Nat.reduceLeDiff, Nat.reduceEqDiff, Nat.reduceSub, Nat.reduceMul, Nat.reduceDiv, SOper.again, same, sameBlk, sameCap, Nat.reduceBneDiff, s_draw2, s_pair, k_pair, asunder, SOper.into, Bool.not_false, Bool.not_true]) ?_
  have hw := within_range k (b := 300) (by omega) (by omega)
  have h15 := within15 k 300 (by omega)
  obtain ⟨N, hN⟩ : ∃ N : Nat, within k 300 = (N : Int) := ⟨(within k 300).toNat, by omega⟩
  rw [hN] at h15
  have hN1 : N < 300 := by omega
  obtain ⟨t, ht⟩ : ∃ t : Int, t = if b then -2 else 2 := ⟨_, rfl⟩
  have hta : t.natAbs = 2 := by rw [ht]; split <;> rfl
  have ht0 : t ≠ 0 := by omega
  have htt : decZ t = if b then [45, 50] else [50] := by
    rw [ht]; cases b with
    | true => rw [if_pos rfl, if_pos rfl, decZ_flip (by omega), z2]
    | false => rw [if_neg (by simp), if_neg (by simp), z2]
  have lt : t.natAbs < 10 ^ 200 := by rw [hta]; decide
  have m1 := Ev.all (List.range 299) (p := fun i n => ∀ H, callN P4 n 20 [.str (decZ (t ^ i)), .str (decZ t)] H = some (.ret (.tuple [.str (decZ (t ^ (i + 1))), .bool true]), H)) fun i hi => by
    have hi := List.mem_range.1 hi
    have h := mul20 (t ^ i) t (pow2_lt hta i (by omega)) lt (by omega)
    rw [← Int.pow_succ, opT_small (pow2_lt hta (i + 1) (by omega))] at h
    exact h
  have m2 := Ev.all (List.range 299) (p := fun i n => ∀ H, callN P4 n 23 [.str (decZ (t ^ i)), .str (decZ t)] H = some (.ret (.tuple [.str (decZ (t ^ (i + 1))), .bool true]), H)) fun i hi => by
    have hi := List.mem_range.1 hi
    have h := mul23 (t ^ i) t (k := 199) (pow2_lt hta i (by omega)) lt (by omega)
    rw [← Int.pow_succ, opT_small (pow2_lt hta (i + 1) (by omega))] at h
    exact h
  have m3 := Ev.all (List.range 299) (p := fun i n => ∀ H, callN P4 n 22 [.str (decZ (t ^ (i + 1))), .str (decZ t)] H = some (.ret (.tuple [.str (decZ (t ^ i)), .str [48], .bool true]), H)) fun i hi => by
    have hi := List.mem_range.1 hi
    have h := quoR (x := t ^ (i + 1)) (y := t) (q := t ^ i) (r := 0) 200 200 (pow2_lt hta (i + 1) (by omega)) lt (by omega) (by omega) ht0
      (by rw [Int.pow_succ]; exact Int.mul_tdiv_cancel _ ht0) (by rw [Int.pow_succ]; exact Int.mul_tmod_left _ _)
    rw [z0] at h
    exact h
  refine (known13.and (h15.and (m1.and (m2.and (m3.and (Ev.ge 400)))))).mono fun n e H => ?_
  obtain ⟨e0, e1, e2, e3, e4, hge⟩ := e
  have exx : ∀ s : Str, (s == s) = true := fun s => by simp
  have hone : decZ (t ^ 0) = [49] := by
    rw [Int.pow_zero, show (1 : Int) = ((1 : Nat) : Int) from rfl, decZ_nonneg]; exact decN_small (by omega)
  have loop0 : ∀ (fr : Fr) (H : Heap), fr 5 = .int .i64 (N : Int) → fr 6 = .str (decZ t) → fr 7 = .str (decZ (t ^ 0)) → fr 8 = .int .i64 (0 : Nat) →
      Ends (loopR (callN P4 n) n c9_l0 n fr H (blockK 0 (seqK (callN P4 n) n (SCode.seq (SCode.seq (SCode.ops [SOper.mk (some 13) none (SOp.p (POp.move (SX.lit (AV.int IntKind.i64 0))))]) (SCode.block 2 (SCode.loop c9_l1))) (SCode.seq (SCode.ops [SOper.mk (some 66) none (SOp.p (POp.move (SX.tmp 7))), SOper.mk (some 67) none (SOp.p (POp.bin BinOp.eql EqT.none (SX.tmp 66) (SX.lit (AV.str [49])))), SOper.mk (some 4) none (SOp.p (POp.move (SX.tmp 67)))]) SCode.ret)) (finish [ResV.tmp 4])))) (.bool true) := by
    intro fr H h5 h6 h7 h8
    refine loop_rounds N (fun i fr H => fr 5 = .int .i64 (N : Int) ∧ fr 6 = .str (decZ t) ∧ fr 7 = .str (decZ (t ^ i)) ∧ fr 8 = .int .i64 (i : Nat)) ?_ ?_ n 0 _ _ (by omega) (by omega) ⟨h5, h6, h7, h8⟩
    · rintro i fr H K' hi ⟨h5, h6, h7, h8⟩ hKe hKr hK
      have f1 := e2 i (List.mem_range.2 (by omega))
      have f2 := e3 i (List.mem_range.2 (by omega))
      have hlt : (i : Int) < (N : Int) := by omega
      have hw := wrap_succ (i := i) (n := N) hi (by omega)
      have hx := exx (decZ (t ^ (i + 1)))
      generalize decZ (t ^ (i + 1)) = s1 at *
      generalize decZ (t ^ i) = s0 at *
      generalize decZ t = st at *
      simp -implicitDefEqProofs only [c9_l0, ↓v_lenS, SB, POp.val, AOp.val, WOp.val, Lite.bin, intBin, strBin, eqv, eqMany, eq1, AV.asBool, AV.asInt, AV.asNat, AV.asPtr, AV.asStr, resVals, ResV.val, oneOr, wants, skipped, fillAt, putAt, capOf, optNat, bnd, Nat.reduceBEq, reduceIte, Nat.reduceAdd, Nat.reduceLeDiff, Nat.reduceEqDiff, Nat.reduceSub, Nat.reduceMul, Nat.reduceDiv, SOper.again, same, sameBlk, sameCap, Nat.reduceBneDiff, s_draw2, s_pair, k_pair, asunder, SOper.into, Bool.not_false, Bool.not_true, CL, h5, h6, h7, h8, hlt, f1, f2, hw, hx]
      refine hK _ _ ⟨?_, ?_, ?_, ?_⟩
      all_goals simp -implicitDefEqProofs only [↓v_lenS, SB, POp.val, AOp.val, WOp.val, Lite.bin, intBin, strBin, eqv, eqMany, eq1, AV.asBool, AV.asInt, AV.asNat, AV.asPtr, AV.asStr, resVals, ResV.val, oneOr, wants, skipped, fillAt, putAt, capOf, optNat, bnd, Nat.reduceBEq, reduceIte, Nat.reduceAdd, Nat.reduceLeDiff, Nat.reduceEqDiff, Nat.reduceSub, Nat.reduceMul, Nat.reduceDiv, SOper.again, same, sameBlk, sameCap, Nat.reduceBneDiff, s_draw2, s_pair, k_pair, asunder, SOper.into, Bool.not_false, Bool.not_true, h5, h6]
    · rintro fr H K' ⟨h5, h6, h7, h8⟩ hKe hKr
      simp -implicitDefEqProofs only [c9_l0, ↓v_lenS, SB, POp.val, AOp.val, WOp.val, Lite.bin, intBin, strBin, eqv, eqMany, eq1, AV.asBool, AV.asInt, AV.asNat, AV.asPtr, AV.asStr, resVals, ResV.val, oneOr, wants, skipped, fillAt, putAt, capOf, optNat, bnd, Nat.reduceBEq, reduceIte, Nat.reduceAdd, Nat.reduceLeDiff, Nat.reduceEqDiff, Nat.reduceSub, Nat.reduceMul, Nat.reduceDiv, SOper.again, same, sameBlk, sameCap, Nat.reduceBneDiff, s_draw2, s_pair, k_pair, asunder, SOper.into, Bool.not_false, Bool.not_true, h5, h8, Int.lt_irrefl, hKe, k_blockE]
      refine loop_rounds N (fun i fr H => fr 5 = .int .i64 (N : Int) ∧ fr 6 = .str (decZ t) ∧ fr 7 = .str (decZ (t ^ (N - i))) ∧ fr 13 = .int .i64 (i : Nat)) ?_ ?_ n 0 _ _ (by omega) (by omega) ?_
      · rintro i fr H K' hi ⟨h5, h6, h7, h13⟩ hKe hKr hK
        obtain ⟨j, hj⟩ : ∃ j, j = N - (i + 1) := ⟨_, rfl⟩
        have f1 := e4 j (List.mem_range.2 (by omega))
        rw [show N - i = j + 1 by omega] at h7
        rw [← hj] at hK
        have hlt : (i : Int) < (N : Int) := by omega
        have hw := wrap_succ (i := i) (n := N) hi (by omega)
        have hx := exx [48]
        generalize decZ (t ^ (j + 1)) = s1 at *
        generalize decZ (t ^ j) = s0 at *
        generalize decZ t = st at *
        simp -implicitDefEqProofs only [c9_l1, ↓v_lenS, SB, POp.val, AOp.val, WOp.val, Lite.bin, intBin, strBin, eqv, eqMany, eq1, AV.asBool, AV.asInt, AV.asNat, AV.asPtr, AV.asStr, resVals, ResV.val, oneOr, wants, skipped, fillAt, putAt, capOf, optNat, bnd, Nat.reduceBEq, reduceIte, Nat.reduceAdd, Nat.reduceLeDiff, Nat.reduceEqDiff, Nat.reduceSub, Nat.reduceMul, Nat.reduceDiv, SOper.again, same, sameBlk, sameCap, Nat.reduceBneDiff, s_draw2, s_pair, k_pair, asunder, SOper.into, Bool.not_false, Bool.not_true, CL, h5, h6, h7, h13, hlt, f1, hw, hx]
        refine hK _ _ ⟨?_, ?_, ?_, ?_⟩
        all_goals simp -implicitDefEqProofs only [↓v_lenS, SB, POp.val, AOp.val, WOp.val, Lite.bin, intBin, strBin, eqv, eqMany, eq1, AV.asBool, AV.asInt, AV.asNat, AV.asPtr, AV.asStr, resVals, ResV.val, oneOr, wants, skipped, fillAt, putAt, capOf, optNat, bnd, Nat.reduceBEq, reduceIte, Nat.reduceAdd, Nat.reduceLeDiff, Nat.reduceEqDiff, Nat.reduceSub, Nat.reduceMul, Nat.reduceDiv, SOper.again, same, sameBlk, sameCap, Nat.reduceBneDiff, s_draw2, s_pair, k_pair, asunder, SOper.into, Bool.not_false, Bool.not_true, h5, h6]
      · rintro fr H K' ⟨h5, h6, h7, h13⟩ hKe hKr
        rw [Nat.sub_self, hone] at h7
        have hx := exx [49]
        simp -implicitDefEqProofs only [c9_l1, ↓v_lenS, SB, POp.val, AOp.val, WOp.val, Lite.bin, intBin, strBin, eqv, eqMany, eq1, AV.asBool, AV.asInt, AV.asNat, AV.asPtr, AV.asStr, resVals, ResV.val, oneOr, wants, skipped, fillAt, putAt, capOf, optNat, bnd, Nat.reduceBEq, reduceIte, Nat.reduceAdd, Nat.reduceLeDiff, Nat.reduceEqDiff, Nat.reduceSub, Nat.reduceMul, Nat.reduceDiv, SOper.again, same, sameBlk, sameCap, Nat.reduceBneDiff, s_draw2, s_pair, k_pair, asunder, SOper.into, Bool.not_false, Bool.not_true, h5, h7, h13, Int.lt_irrefl, hKe, k_blockE, hx, gives_ret]
        exact ⟨_, rfl⟩
      · refine ⟨?_, ?_, ?_, ?_⟩
        all_goals simp -implicitDefEqProofs only [↓v_lenS, SB, POp.val, AOp.val, WOp.val, Lite.bin, intBin, strBin, eqv, eqMany, eq1, AV.asBool, AV.asInt, AV.asNat, AV.asPtr, AV.asStr, resVals, ResV.val, oneOr, wants, skipped, fillAt, putAt, capOf, optNat, bnd, Nat.reduceBEq, reduceIte, Nat.reduceAdd, Nat.reduceLeDiff, Nat.reduceEqDiff, Nat.reduceSub, Nat.reduceMul, Nat.reduceDiv, SOper.again, same, sameBlk, sameCap, Nat.reduceBneDiff, s_draw2, s_pair, k_pair, asunder, SOper.into, Bool.not_false, Bool.not_true, h5, h6, h7]
        · rfl
        · rfl
  cases b with
  | true =>
    rw [if_pos rfl] at htt
    simp -implicitDefEqProofs only [c9, ↓v_lenS, SB, POp.val, AOp.val, WOp.val, Lite.bin, intBin, strBin, eqv, eqMany, eq1, AV.asBool, AV.asInt, AV.asNat, AV.asPtr, AV.asStr, resVals, ResV.val, oneOr, wants, skipped, fillAt, putAt, capOf, optNat, bnd, Nat.reduceBEq, reduceIte, Nat.reduceAdd, Nat.reduceLeDiff, Nat.reduceEqDiff, Nat.reduceSub, Nat.reduceMul, Nat.reduceDiv, SOper.again, same, sameBlk, sameCap, Nat.reduceBneDiff, s_draw2, s_pair, k_pair, asunder, SOper.into, Bool.not_false, Bool.not_true, CL, e0, e1]
    refine loop0 _ _ ?_ ?_ ?_ ?_
    all_goals simp -implicitDefEqProofs only [↓v_lenS, SB, POp.val, AOp.val, WOp.val, Lite.bin, intBin, strBin, eqv, eqMany, eq1, AV.asBool, AV.asInt, AV.asNat, AV.asPtr, AV.asStr, resVals, ResV.val, oneOr, wants, skipped, fillAt, putAt, capOf, optNat, bnd, Nat.reduceBEq, reduceIte, Nat.reduceAdd, Nat.reduceLeDiff, Nat.reduceEqDiff, Nat.reduceSub, Nat.reduceMul, Nat.reduceDiv, SOper.again, same, sameBlk, sameCap, Nat.reduceBneDiff, s_draw2, s_pair, k_pair, asunder, SOper.into, Bool.not_false, Bool.not_true, htt, hone]
    rfl
  | false =>
    rw [if_neg (by simp)] at htt
    simp -implicitDefEqProofs only [c9, ↓v_lenS, SB, POp.val, AOp.val, WOp.val, Lite.bin, intBin, strBin, eqv, eqMany, eq1, AV.asBool, AV.asInt, AV.asNat, AV.asPtr, AV.asStr, resVals, ResV.val, oneOr, wants, skipped, fillAt, putAt, capOf, optNat, bnd, Nat.reduceBEq, reduceIte, Nat.reduceAdd, Nat.reduceLeDiff, Nat.reduceEqDiff, Nat.reduceSub, Nat.reduceMul, Nat.reduceDiv, SOper.again, same, sameBlk, sameCap, Nat.reduceBneDiff, s_draw2, s_pair, k_pair, asunder, SOper.into, Bool.not_false, Bool.not_true, CL, e0, e1]
    refine loop0 _ _ ?_ ?_ ?_ ?_
    all_goals simp -implicitDefEqProofs only [↓v_lenS, SB, POp.val, AOp.val, WOp.val, Lite.bin, intBin, strBin, eqv, eqMany, eq1, AV.asBool, AV.asInt, AV.asNat, AV.asPtr, AV.asStr, resVals, ResV.val, oneOr, wants, skipped, fillAt, putAt, capOf, optNat, bnd, Nat.reduceBEq, reduceIte, Nat.reduceAdd, Nat.reduceLeDiff, Nat.reduceEqDiff, Nat.reduceSub, Nat.reduceMul, Nat.reduceDiv, SOper.again, same, sameBlk, sameCap, Nat.reduceBneDiff, s_draw2, s_pair, k_pair, asunder, SOper.into, Bool.not_false, Bool.not_true, htt, hone]
    rfl

end Go.Lite

/- The row of the law BigPowers, and its card: what its call does, from the interpreter's run; what it lists, tied to the program's text. -/
namespace Go.Proofs.YtpnbhbacpkoddaaDoor.bigPowers
open Go.ChangeShapes Go.WideShapes Go.ChangeAt Go.RowKit Go.Lite
open Go.ChangeMaps (open_string shut_string)
set_option linter.unusedVariables false
set_option maxRecDepth 100000
theorem own : ownKnob Tryd.prog.godebug = none := by kernel_rfl
theorem laid_met (os : Os) : laidMet Tryd.prog Rows.bigPowersRow.laid ((laidWorld Tryd.prog os [(2, Rows.laid_math_bits_deBruijn32tab), (3, Rows.laid_math_bits_deBruijn64tab), (0, Rows.laid_internal_strconv_uint64pow10)]).forCall (fun _ _ => 0) ⟨#[], #[.int .i64 0, .bool false], []⟩).memory :=
  laidMet_of_run' 8 (by kernel_rfl) (by kernel_rfl)
theorem lifted (os : Os) (started : os.Started) (H : Type) (enc : TypeId × Value → H) :
    ReturnsInHanded {} Tryd.checked os 9 .any (fun w args => (Rows.bigPowersSpec.pre enc Tryd.prog Tryd.f9 Rows.bigPowersRow.domain false w args ∧ laidMet Tryd.prog Rows.bigPowersRow.laid w) ∧ sizedMet enc Tryd.prog Tryd.f9 (OpenSpec.ofChange Rows.bigPowersSpec) false w args) (Rows.bigPowersSpec.post enc Tryd.prog Tryd.f9 false true false false) := by
  refine returns_laid (C := Tryd.checked) (X := fun w _ => laidMet Tryd.prog Rows.bigPowersRow.laid w) own started (by kernel_rfl) Tryd.func9
    (ChangeSpec.witness_at (enc := enc) (C := Tryd.checked) (os := os) (X := fun w _ => laidMet Tryd.prog Rows.bigPowersRow.laid w) false (laidWorld Tryd.prog os [(2, Rows.laid_math_bits_deBruijn32tab), (3, Rows.laid_math_bits_deBruijn64tab), (0, Rows.laid_internal_strconv_uint64pow10)]) #[.int .i64 0, .bool false] 8 rfl (by kernel_rfl) (by kernel_rfl) (by kernel_rfl) (by kernel_rfl) (by kernel_rfl) (laid_met os)) ?_
  intro W base args ds gs before hval0 hW hcnd hsz0 hsh hlx _
  have hsz : (DataW.weightsEach Tryd.prog (Tryd.f9.params.toList ++ Rows.bigPowersSpec.plain.varTypes Tryd.prog) (ds ++ gs)).all (· ≤ reachBytes) = true := hsz0
  have hval : ∀ (j : Nat) t v, Tryd.f9.params[j]? = some t → args[j]? = some v → Value.okWide Tryd.prog W .any base t v := hval0
  have hW' := hW
  obtain ⟨p, q, hA0, hV, rfl, hfz, hnd⟩ := hW
  have hA : DataW.TrodAll enc Tryd.prog W 0 (fun _ => true) true Tryd.f9.params.toList args.toList ds p := hA0
  rw [Tryd.params9] at hA hval hsz
  obtain ⟨v0, vs0, d0, ds0, p0, q0, hargs, rfl, rfl, h0, r0⟩ := trodAll_cons hA
  obtain ⟨v1, vs1, d1, ds1, p1, q1, rfl, rfl, rfl, h1, r1⟩ := trodAll_cons r0
  obtain ⟨rfl, rfl, rfl⟩ := trodAll_nil r1
  obtain rfl : args = #[v0, v1] := by cases args; simp_all
  obtain ⟨rfl, rfl⟩ := trodVars_none hV
  obtain ⟨a0, rfl, rfl, rfl, w0⟩ := open_int Tryd.underlying3 (hval 0 3 v0 rfl rfl) h0
  obtain ⟨a1, rfl, rfl, rfl⟩ := open_bool Tryd.underlying4 (hval 1 4 v1 rfl rfl) h1
  refine (calls_of_ret hsh (tab_of_laid hlx) (law9 a0 a1) (by simp only [VRels]; exact ⟨_, _, rfl, rfl, _, _, rfl, rfl, rfl⟩)).mono fun e W' ⟨he, bel⟩ => ?_
  subst he
  exact ⟨_, rfl, _, _, _, [], _, [], hW', trodAll_mk1 (shut_bool Tryd.underlying4 _), (trodAll_cons_mk (shut_int Tryd.underlying3 w0) (trodAll_cons_mk (shut_bool Tryd.underlying4 _) trodAll_mk0)), rfl, bel.frame _, fun h => by cases h⟩
theorem over : Rows.bigPowersRow.holds Tryd.pinned (OpenSpec.ofChange Rows.bigPowersSpec) :=
  OpenClaim.holds_of_wide 9 Tryd.f9 rfl rfl rfl rfl rfl rfl rfl ⟨rfl, rfl, rfl, rfl, rfl⟩ rfl rfl rfl rfl rfl (by kernel_rfl) Tryd.func9 (by kernel_rfl)
    (of_decide_eq_true (by kernel_rfl)) (by unfold Func.isWrapper; first | (rw [if_pos (by decide +kernel)]; kernel_rfl) | (rw [if_neg (by decide +kernel)]; exact ⟨rfl, rfl⟩))
    (fun os started H enc _ => lifted os started H enc)
theorem card : Rows.BigPowersCardSaid :=
  Claim7.holds_tied_plain_at .later [] [.data, .data, .data] true (true, "3f6c65230efcc366f875a5b532b9a48e131542a205115071931acd097d8d462f") false over (fun _ h => by cases h) (by kernel_rfl) (fun _ h => by cases h) bigPowers_row_tie rfl ⟨rfl, rfl⟩ (by kernel_rfl) (by first | rfl | decide)
    (fun f fn h1 h2 => by
      obtain rfl : f = 9 := Option.some.inj (h1.symm.trans (by kernel_rfl))
      obtain rfl : fn = Tryd.f9 := Option.some.inj (h2.symm.trans Tryd.func9)
      refine ⟨by kernel_rfl, fun j t hj => ?_⟩
      rw [Tryd.params9] at hj
      match j, hj with
      | 0, hj =>
        obtain rfl : t = 3 := by simpa using hj.symm
        exact (by kernel_rfl : Tryd.pinned.checked.prog.wantsStandIn 3 = false)
      | 1, hj =>
        obtain rfl : t = 4 := by simpa using hj.symm
        exact (by kernel_rfl : Tryd.pinned.checked.prog.wantsStandIn 4 = false)
      | j + 2, hj => simp at hj)
    (by kernel_rfl)
#print axioms card
end Go.Proofs.YtpnbhbacpkoddaaDoor.bigPowers
namespace Go.Proofs.YtpnbhbacpkoddaaDoor
/-- The card, under a short name, for the claim. -/
theorem bigPowers_holds : Rows.BigPowersCardSaid := bigPowers.card
end Go.Proofs.YtpnbhbacpkoddaaDoor
