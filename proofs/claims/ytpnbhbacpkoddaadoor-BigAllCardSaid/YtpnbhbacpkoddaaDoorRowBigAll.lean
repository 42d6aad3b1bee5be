/- The row of the law BigAll, and its card: what its call does, from the interpreter's run; what it lists, tied to the program's text. -/
import Derived.Test.YtpnbhbacpkoddaaDoorQbH
import Derived.Test.YtpnbhbacpkoddaaDoorQbG
import Derived.Test.YtpnbhbacpkoddaaDoorQbC
import Derived.Test.YtpnbhbacpkoddaaDoorTie
import Derived.Test.YtpnbhbacpkoddaaDoorCards
import Derived.WalkKit
import Derived.ProofKit
import Derived.OpenShut
import Derived.ShutString
import Derived.ChangeOld
import Derived.Below
import Derived.SizedLaws
import Derived.HandedShaped
import Derived.Carry
import Derived.SevenTiedAt

/-
  The law BigAll.
-/
namespace Go.Lite
open Go Go.Proofs
set_option maxRecDepth 100000
set_option linter.unusedSimpArgs false
set_option linter.unusedVariables false

/-- what the law asks for, of two numbers: both sides answer alike -/
def Alike (n : Nat) (x y : Int) : Prop := ∃ (A B C D E : Str) (a b c d : Bool) (s : Int),
  (∀ H, callN P4 n 21 [.str (decZ x), .str (decZ y)] H = some (.ret (.tuple [.str A, .bool a]), H)) ∧ (∀ H, callN P4 n 25 [.str (decZ x), .str (decZ y)] H = some (.ret (.tuple [.str A, .bool a]), H)) ∧
  (∀ H, callN P4 n 18 [.str (decZ x), .str (decZ y)] H = some (.ret (.tuple [.str B, .bool b]), H)) ∧ (∀ H, callN P4 n 26 [.str (decZ x), .str (decZ y)] H = some (.ret (.tuple [.str B, .bool b]), H)) ∧
  (∀ H, callN P4 n 20 [.str (decZ x), .str (decZ y)] H = some (.ret (.tuple [.str C, .bool c]), H)) ∧ (∀ H, callN P4 n 23 [.str (decZ x), .str (decZ y)] H = some (.ret (.tuple [.str C, .bool c]), H)) ∧
  (∀ H, callN P4 n 22 [.str (decZ x), .str (decZ y)] H = some (.ret (.tuple [.str D, .str E, .bool d]), H)) ∧ (∀ H, callN P4 n 27 [.str (decZ x), .str (decZ y)] H = some (.ret (.tuple [.str D, .str E, .bool d]), H)) ∧
  (∀ H, callN P4 n 19 [.str (decZ x), .str (decZ y)] H = some (.ret (.int .i64 s), H)) ∧ (∀ H, callN P4 n 28 [.str (decZ x), .str (decZ y)] H = some (.ret (.int .i64 s), H))

theorem alike (x y : Int) (hx : x.natAbs < 10 ^ 200) (hy : y.natAbs < 10 ^ 200) : Ev fun n => Alike n x y := by
  have q := add21 x y (k := 200) hx hy (by omega)
  have r := add25 x y (k := 199) hx hy (by omega)
  have q2 := sub18 x y (k := 200) hx hy (by omega)
  have r2 := sub26 x y (k := 199) hx hy (by omega)
  have q3 := mul20 x y (k := 200) hx hy (by omega)
  have r3 := mul23 x y (k := 199) hx hy (by omega)
  have q5 := cmp19 x y (k := 200) hx hy (by omega)
  have r5 := cmp28 x y (k := 199) hx hy (by omega)
  have q4 : ∃ D E d, Ret P4 22 [.str (decZ x), .str (decZ y)] (.tuple [.str D, .str E, .bool d]) ∧ Ret P4 27 [.str (decZ x), .str (decZ y)] (.tuple [.str D, .str E, .bool d]) := by
    by_cases h0 : y = 0
    · subst h0
      exact ⟨_, _, _, quo22_zero x (k := 200) hx (by omega), quo27_zero x (k := 199) hx (by omega)⟩
    · exact ⟨_, _, _, quo22 x y (k := 200) hx hy (by omega) h0, quo27 x y (k := 199) hx hy (by omega) h0⟩
  obtain ⟨D, E, d, q4, r4⟩ := q4
  unfold opT at q r q2 r2 q3 r3
  exact (q.and (r.and (q2.and (r2.and (q3.and (r3.and (q4.and (r4.and (q5.and r5))))))))).mono fun n h => ⟨_, _, _, D, E, _, _, _, d, _, h⟩

def prs (x y : Int) : List (Int × Int) := [(x, y), (y, x), (x, x), (x, 0), (0, y), (x, -1), (x, 10)]
def pr1 (p : Int × Int) : List AV := [.str (decZ p.1), .str (decZ p.2)]
theorem pr1_len (p : Int × Int) : (pr1 p).length = 2 := rfl

theorem law11 (f0 f1 : Bool) (k0 k1 : List Int) (b0 b1 : Bool) (h0 : k0.length ≤ 9223372036854775807) (h1 : k1.length ≤ 9223372036854775807) : Ret P4 11 [vI f0 k0, vI f1 k1, .bool b0, .bool b1] (.bool true) := by
  refine Ret.of rfl (code11 _ _) rfl rfl (fun H => by simp -implicitDefEqProofs only [↓v_lenS, SB, POp.val, AOp.val, WOp.val, Lite.bin, intBin, strBin, eqv, eqMany, eq1, AV.asBool, AV.asInt, AV.asNat, AV.asPtr, AV.asStr, resVals, ResV.val, oneOr, wants, skipped, fillAt, putAt, capOf, optNat, bnd, Nat.reduceBEq, reduceIte, Nat.reduceAdd, Nat.reduceLeDiff, Nat.reduceEqDiff, Nat.reduceSub, Nat.reduceMul, Nat.reduceDiv, SOper.again, same, sameBlk, sameCap, Nat.reduceBneDiff, s_draw2, s_pair, k_pair, asunder, SOper.into, Bool.not_false, Bool.not_true, IS]) ?_
  have n0 := num14 f0 k0 200 b0 h0 (by omega)
  have n1 := num14 f1 k1 200 b1 h1 (by omega)
  have lx := numZ_lt k0 200 b0
  have ly := numZ_lt k1 200 b1
  generalize numZ k0 200 b0 = x at *
  generalize numZ k1 200 b1 = y at *
  have e200 : ((200 : Nat) : Int) = 200 := rfl
  rw [e200] at n0 n1
  have al : Ev fun n => ∀ p ∈ prs x y, Alike n p.1 p.2 := Ev.all (prs x y) fun p hp => by
    simp only [prs, List.mem_cons, List.not_mem_nil, or_false] at hp
    rcases hp with rfl | rfl | rfl | rfl | rfl | rfl | rfl
    · exact alike _ _ lx ly
    · exact alike _ _ ly lx
    · exact alike _ _ lx lx
    · exact alike _ _ lx (show (0 : Int).natAbs < 10 ^ 200 by decide)
    · exact alike _ _ (show (0 : Int).natAbs < 10 ^ 200 by decide) ly
    · exact alike _ _ lx (show (-1 : Int).natAbs < 10 ^ 200 by decide)
    · exact alike _ _ lx (show (10 : Int).natAbs < 10 ^ 200 by decide)
  have hl7 : (prs x y).length = 7 := rfl
  have hfl : (prs x y).flatMap pr1 = [.str (decZ x), .str (decZ y), .str (decZ y), .str (decZ x), .str (decZ x), .str (decZ x), .str (decZ x), .str [48], .str [48], .str (decZ y), .str (decZ x), .str [45, 49], .str (decZ x), .str [49, 48]] := by
    have z10 : decZ 10 = [49, 48] := by
      rw [show (10 : Int) = ((10 : Nat) : Int) from rfl, decZ_nonneg, show (10 : Nat) = 10 * 1 + 0 from rfl, decN_step (by omega) (by omega), decN_small (by omega)]; rfl
    have z1 : decZ 1 = [49] := by rw [show (1 : Int) = ((1 : Nat) : Int) from rfl, decZ_nonneg]; exact decN_small (by omega)
    have zm : decZ (-1) = [45, 49] := by rw [decZ_flip (by omega), z1]
    show [AV.str (decZ x), .str (decZ y), .str (decZ y), .str (decZ x), .str (decZ x), .str (decZ x), .str (decZ x), .str (decZ 0), .str (decZ 0), .str (decZ y), .str (decZ x), .str (decZ (-1)), .str (decZ x), .str (decZ 10)] = _
    rw [z0, zm, z10]
  generalize prs x y = P at *
  refine (known13.and (n0.and (n1.and (al.and (Ev.ge 20))))).mono fun n e H => ?_
  obtain ⟨e0, e1, e2, e3, hge⟩ := e
  generalize decZ x = sx at *
  generalize decZ y = sy at *
  simp -implicitDefEqProofs only [c11, ↓v_lenS, SB, POp.val, AOp.val, WOp.val, Lite.bin, intBin, strBin, eqv, eqMany, eq1, AV.asBool, AV.asInt, AV.asNat, AV.asPtr, AV.asStr, resVals, ResV.val, oneOr, wants, skipped, fillAt, putAt, capOf, optNat, bnd, Nat.reduceBEq, reduceIte, Nat.reduceAdd, Nat.reduceLeDiff, Nat.reduceEqDiff, Nat.reduceSub, Nat.reduceMul, Nat.reduceDiv, SOper.again, same, sameBlk, sameCap, Nat.reduceBneDiff, s_draw2, s_pair, k_pair, asunder, SOper.into, Bool.not_false, Bool.not_true, CL, IS, e0, e1, e2]
  refine loop_rounds 7 (fun i fr H => fr 11 = .lst 2 7 true (P.flatMap pr1) ∧ fr 12 = .int .i64 (i : Nat)) ?_ ?_ n 0 _ _ (by omega) (by omega) ⟨?_, ?_⟩
  · rintro i fr H K' hi ⟨h11, h12⟩ hKe hKr hK
    have hlt : (i : Int) < ((7 : Nat) : Int) := by omega
    have hw := wrap_succ (i := i) (n := 7) hi (by omega)
    obtain ⟨pp, hp⟩ : ∃ p, P[i]? = some p := ⟨P[i]'(by omega), List.getElem?_eq_getElem (by omega)⟩
    obtain ⟨u, w⟩ := pp
    have ha : iaddrV 2 (.lst 2 7 true (P.flatMap pr1)) i = some (.ptr (.val [.str (decZ u), .str (decZ w)]) 0) := by
      have h1 := flat_at pr1_len P i
      rw [hp] at h1
      rw [iaddr_lst, if_pos ⟨hi, rfl⟩, h1]; rfl
    obtain ⟨A, B, C, D, E, a, b, c, d, s, g1, g2, g3, g4, g5, g6, g7, g8, g9, g10⟩ := e3 (u, w) (List.mem_of_getElem? hp)
    simp only at g1 g2 g3 g4 g5 g6 g7 g8 g9 g10
    generalize decZ u = su at *
    generalize decZ w = sw at *
    have hln : lenM (.lst 2 7 true (P.flatMap pr1)) = some (.int .i64 (7 : Nat)) := rfl
    generalize AV.lst 2 7 true (P.flatMap pr1) = v at *
    have w1 : ∀ z : Int, (z != z) = false := fun z => by simp
    have w2 : ∀ z : Bool, (z != z) = false := fun z => by simp
    have w3 : ∀ z : Str, (z == z) = true := fun z => by simp
    have lt2 : (0 : Nat) < 2 := by omega
    have lt3 : (1 : Nat) < 2 := by omega
    have i1 : ((0 : Int) ≤ 1) = True := by simp
    have i2 : Int.toNat 1 = 1 := rfl
    simp -implicitDefEqProofs only [c11_l0, ↓v_lenS, SB, POp.val, AOp.val, WOp.val, Lite.bin, intBin, strBin, eqv, eqMany, eq1, AV.asBool, AV.asInt, AV.asNat, AV.asPtr, AV.asStr, resVals, ResV.val, oneOr, wants, skipped, fillAt, putAt, capOf, optNat, bnd, Nat.reduceBEq, reduceIte, Nat.reduceAdd, Nat.reduceLeDiff, Nat.reduceEqDiff, Nat.reduceSub, Nat.reduceMul, Nat.reduceDiv, SOper.again, same, sameBlk, sameCap, Nat.reduceBneDiff, s_draw2, s_pair, k_pair, asunder, SOper.into, Bool.not_false, Bool.not_true, CL, IS, h11, h12, hln, hlt, hw, ha, lt2, lt3, i_toNat0, i_le0, i1, i2, Nat.mul_one, g1, g2, g3, g4, g5, g6, g7, g8, g9, g10, w1, w2, w3]
    refine hK _ _ ⟨?_, ?_⟩
    all_goals simp -implicitDefEqProofs only [↓v_lenS, SB, POp.val, AOp.val, WOp.val, Lite.bin, intBin, strBin, eqv, eqMany, eq1, AV.asBool, AV.asInt, AV.asNat, AV.asPtr, AV.asStr, resVals, ResV.val, oneOr, wants, skipped, fillAt, putAt, capOf, optNat, bnd, Nat.reduceBEq, reduceIte, Nat.reduceAdd, Nat.reduceLeDiff, Nat.reduceEqDiff, Nat.reduceSub, Nat.reduceMul, Nat.reduceDiv, SOper.again, same, sameBlk, sameCap, Nat.reduceBneDiff, s_draw2, s_pair, k_pair, asunder, SOper.into, Bool.not_false, Bool.not_true, h11]
  · rintro fr H K' ⟨h11, h12⟩ hKe hKr
    simp -implicitDefEqProofs only [c11_l0, ↓v_lenS, SB, POp.val, AOp.val, WOp.val, Lite.bin, intBin, strBin, eqv, eqMany, eq1, AV.asBool, AV.asInt, AV.asNat, AV.asPtr, AV.asStr, resVals, ResV.val, oneOr, wants, skipped, fillAt, putAt, capOf, optNat, bnd, Nat.reduceBEq, reduceIte, Nat.reduceAdd, Nat.reduceLeDiff, Nat.reduceEqDiff, Nat.reduceSub, Nat.reduceMul, Nat.reduceDiv, SOper.again, same, sameBlk, sameCap, Nat.reduceBneDiff, s_draw2, s_pair, k_pair, asunder, SOper.into, Bool.not_false, Bool.not_true, CL, IS, h11, h12, Int.lt_irrefl, hKe, k_blockE, Ends, gives_ret]
    exact ⟨_, rfl⟩
  · rw [hfl]; simp -implicitDefEqProofs only [↓v_lenS, SB, POp.val, AOp.val, WOp.val, Lite.bin, intBin, strBin, eqv, eqMany, eq1, AV.asBool, AV.asInt, AV.asNat, AV.asPtr, AV.asStr, resVals, ResV.val, oneOr, wants, skipped, fillAt, putAt, capOf, optNat, bnd, Nat.reduceBEq, reduceIte, Nat.reduceAdd, Nat.reduceLeDiff, Nat.reduceEqDiff, Nat.reduceSub, Nat.reduceMul, Nat.reduceDiv, SOper.again, same, sameBlk, sameCap, Nat.reduceBneDiff, s_draw2, s_pair, k_pair, asunder, SOper.into, Bool.not_false, Bool.not_true]
  · simp -implicitDefEqProofs only [↓v_lenS, SB, POp.val, AOp.val, WOp.val, Lite.bin, intBin, strBin, eqv, eqMany, eq1, AV.asBool, AV.asInt, AV.asNat, AV.asPtr, AV.asStr, resVals, ResV.val, oneOr, wants, skipped, fillAt, putAt, capOf, optNat, bnd, Nat.reduceBEq, reduceIte, Nat.reduceAdd, Nat.reduceLeDiff, Nat.reduceEqDiff, Nat.reduceSub, Nat.reduceMul, Nat.reduceDiv, SOper.again, same, sameBlk, sameCap, Nat.reduceBneDiff, s_draw2, s_pair, k_pair, asunder, SOper.into, Bool.not_false, Bool.not_true]; rfl

end Go.Lite

/- The row of the law BigAll, and its card: what its call does, from the interpreter's run; what it lists, tied to the program's text. -/
namespace Go.Proofs.YtpnbhbacpkoddaaDoor.bigAll
open Go.ChangeShapes Go.WideShapes Go.ChangeAt Go.RowKit Go.Lite
open Go.ChangeMaps (open_string shut_string)
set_option linter.unusedVariables false
set_option maxRecDepth 100000
theorem own : ownKnob Tryd.prog.godebug = none := by kernel_rfl
theorem laidOut : laidOutB Tryd.prog = true := by kernel_rfl
theorem laid_met (os : Os) : laidMet Tryd.prog Rows.bigAllRow.laid ((laidWorld Tryd.prog os [(2, Rows.laid_math_bits_deBruijn32tab), (3, Rows.laid_math_bits_deBruijn64tab), (0, Rows.laid_internal_strconv_uint64pow10)]).forCall (fun _ _ => 0) ⟨#[], #[.slice none 0 0, .slice none 0 0, .bool false, .bool false], []⟩).memory :=
  laidMet_of_run' 8 (by kernel_rfl) (by kernel_rfl)
theorem lifted (os : Os) (started : os.Started) (H : Type) (enc : TypeId × Value → H) :
    ReturnsInHanded {} Tryd.checked os 11 .any (fun w args => (Rows.bigAllSpec.pre enc Tryd.prog Tryd.f11 Rows.bigAllRow.domain false w args ∧ laidMet Tryd.prog Rows.bigAllRow.laid w) ∧ sizedMet enc Tryd.prog Tryd.f11 (OpenSpec.ofChange Rows.bigAllSpec) false w args) (Rows.bigAllSpec.post enc Tryd.prog Tryd.f11 false true false false) := by
  refine returns_laid (C := Tryd.checked) (X := fun w _ => laidMet Tryd.prog Rows.bigAllRow.laid w) own started (by kernel_rfl) Tryd.func11
    (ChangeSpec.witness_at (enc := enc) (C := Tryd.checked) (os := os) (X := fun w _ => laidMet Tryd.prog Rows.bigAllRow.laid w) false (laidWorld Tryd.prog os [(2, Rows.laid_math_bits_deBruijn32tab), (3, Rows.laid_math_bits_deBruijn64tab), (0, Rows.laid_internal_strconv_uint64pow10)]) #[.slice none 0 0, .slice none 0 0, .bool false, .bool false] 8 rfl (by kernel_rfl) (by kernel_rfl) (by kernel_rfl) (by kernel_rfl) (by kernel_rfl) (laid_met os)) ?_
  intro W base args ds gs before hval0 hW hcnd hsz0 hsh hlx _
  have hsz : (DataW.weightsEach Tryd.prog (Tryd.f11.params.toList ++ Rows.bigAllSpec.plain.varTypes Tryd.prog) (ds ++ gs)).all (· ≤ reachBytes) = true := hsz0
  have hval : ∀ (j : Nat) t v, Tryd.f11.params[j]? = some t → args[j]? = some v → Value.okWide Tryd.prog W .any base t v := hval0
  have hW' := hW
  obtain ⟨p, q, hA0, hV, rfl, hfz, hnd⟩ := hW
  have hA : DataW.TrodAll enc Tryd.prog W 0 (fun _ => true) true Tryd.f11.params.toList args.toList ds p := hA0
  rw [Tryd.params11] at hA hval hsz
  obtain ⟨v0, vs0, d0, ds0, p0, q0, hargs, rfl, rfl, h0, r0⟩ := trodAll_cons hA
  obtain ⟨v1, vs1, d1, ds1, p1, q1, rfl, rfl, rfl, h1, r1⟩ := trodAll_cons r0
  obtain ⟨v2, vs2, d2, ds2, p2, q2, rfl, rfl, rfl, h2, r2⟩ := trodAll_cons r1
  obtain ⟨v3, vs3, d3, ds3, p3, q3, rfl, rfl, rfl, h3, r3⟩ := trodAll_cons r2
  obtain ⟨rfl, rfl, rfl⟩ := trodAll_nil r3
  obtain rfl : args = #[v0, v1, v2, v3] := by cases args; simp_all
  obtain ⟨rfl, rfl⟩ := trodVars_none hV
  have k0 := h0
  have lt0 : ∀ x ∈ p0, x.block < W.heap.size := by obtain ⟨m, hm⟩ := k0; exact DataW.trod_lt m _ _ _ hm
  have o0 := (hval 0 22 v0 rfl rfl)
  obtain ⟨z0, n0, c0, rfl⟩ := okWide_slice Tryd.underlying22 o0
  obtain ⟨g0, y0⟩ := h0
  obtain ⟨a0, w0, e0⟩ := open_ints Tryd.underlying22 Tryd.underlying3 (by kernel_rfl) (u := .slice z0 n0 c0) (by simpa [Value.cells] using y0)
  have k1 := h1
  have lt1 : ∀ x ∈ p1, x.block < W.heap.size := by obtain ⟨m, hm⟩ := k1; exact DataW.trod_lt m _ _ _ hm
  have o1 := (hval 1 22 v1 rfl rfl)
  obtain ⟨z1, n1, c1, rfl⟩ := okWide_slice Tryd.underlying22 o1
  obtain ⟨g1, y1⟩ := h1
  obtain ⟨a1, w1, e1⟩ := open_ints Tryd.underlying22 Tryd.underlying3 (by kernel_rfl) (u := .slice z1 n1 c1) (by simpa [Value.cells] using y1)
  obtain ⟨a2, rfl, rfl, rfl⟩ := open_bool Tryd.underlying4 (hval 2 4 v2 rfl rfl) h2
  obtain ⟨a3, rfl, rfl, rfl⟩ := open_bool Tryd.underlying4 (hval 3 4 v3 rfl rfl) h3
  refine (calls_of_ret hsh (tab_of_laid hlx) (law11 _ _ a0 a1 a2 a3 w0 w1) (by simp only [VRels]; exact ⟨_, _, rfl, e0, _, _, rfl, e1, _, _, rfl, rfl, _, _, rfl, rfl, rfl⟩)).mono fun e W' ⟨he, bel⟩ => ?_
  subst he
  exact ⟨_, rfl, _, _, _, [], _, [], hW', trodAll_mk1 (shut_bool Tryd.underlying4 _), (trodAll_cons_mk (Below.trod laidOut (by kernel_rfl) (of_decide_eq_true (by kernel_rfl)) k0 bel lt0) (trodAll_cons_mk (Below.trod laidOut (by kernel_rfl) (of_decide_eq_true (by kernel_rfl)) k1 bel lt1) (trodAll_cons_mk (shut_bool Tryd.underlying4 _) (trodAll_cons_mk (shut_bool Tryd.underlying4 _) trodAll_mk0)))), rfl, bel.frame _, fun h => by cases h⟩
theorem over : Rows.bigAllRow.holds Tryd.pinned (OpenSpec.ofChange Rows.bigAllSpec) :=
  OpenClaim.holds_of_wide 11 Tryd.f11 rfl rfl rfl rfl rfl rfl rfl ⟨rfl, rfl, rfl, rfl, rfl⟩ rfl rfl rfl rfl rfl (by kernel_rfl) Tryd.func11 (by kernel_rfl)
    (of_decide_eq_true (by kernel_rfl)) (by unfold Func.isWrapper; first | (rw [if_pos (by decide +kernel)]; kernel_rfl) | (rw [if_neg (by decide +kernel)]; exact ⟨rfl, rfl⟩))
    (fun os started H enc _ => lifted os started H enc)
theorem card : Rows.BigAllCardSaid :=
  Claim7.holds_tied_plain_at .later [] [.data, .data, .data] true (true, "3f6c65230efcc366f875a5b532b9a48e131542a205115071931acd097d8d462f") false over (fun _ h => by cases h) (by kernel_rfl) (fun _ h => by cases h) bigAll_row_tie rfl ⟨rfl, rfl⟩ (by kernel_rfl) (by first | rfl | decide)
    (fun f fn h1 h2 => by
      obtain rfl : f = 11 := Option.some.inj (h1.symm.trans (by kernel_rfl))
      obtain rfl : fn = Tryd.f11 := Option.some.inj (h2.symm.trans Tryd.func11)
      refine ⟨by kernel_rfl, fun j t hj => ?_⟩
      rw [Tryd.params11] at hj
      match j, hj with
      | 0, hj =>
        obtain rfl : t = 22 := by simpa using hj.symm
        exact (by kernel_rfl : Tryd.pinned.checked.prog.wantsStandIn 22 = false)
      | 1, hj =>
        obtain rfl : t = 22 := by simpa using hj.symm
        exact (by kernel_rfl : Tryd.pinned.checked.prog.wantsStandIn 22 = false)
      | 2, hj =>
        obtain rfl : t = 4 := by simpa using hj.symm
        exact (by kernel_rfl : Tryd.pinned.checked.prog.wantsStandIn 4 = false)
      | 3, hj =>
        obtain rfl : t = 4 := by simpa using hj.symm
        exact (by kernel_rfl : Tryd.pinned.checked.prog.wantsStandIn 4 = false)
      | j + 4, hj => simp at hj)
    (by kernel_rfl)
#print axioms card
end Go.Proofs.YtpnbhbacpkoddaaDoor.bigAll
namespace Go.Proofs.YtpnbhbacpkoddaaDoor
/-- The card, under a short name, for the claim. -/
theorem bigAll_holds : Rows.BigAllCardSaid := bigAll.card
end Go.Proofs.YtpnbhbacpkoddaaDoor
