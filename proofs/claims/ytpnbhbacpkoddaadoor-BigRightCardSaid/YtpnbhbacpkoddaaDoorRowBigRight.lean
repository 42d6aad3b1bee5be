/- The row of the law BigRight, and its card: what its call does, from the interpreter's run; what it lists, tied to the program's text. -/
import Derived.Test.YtpnbhbacpkoddaaDoorQbF
import Derived.Test.YtpnbhbacpkoddaaDoorQbC
import Derived.Test.YtpnbhbacpkoddaaDoorTie
import Derived.Test.YtpnbhbacpkoddaaDoorCards
import Derived.WalkKit
import Derived.ProofKit
import Derived.OpenShut
import Derived.ShutString
import Derived.ChangeOld
import Derived.Below
import Derived.SizedLaws
import Derived.HandedShaped
import Derived.Carry
import Derived.SevenTiedAt

/-
  The law BigRight.
-/
namespace Go.Lite
open Go Go.Proofs
set_option maxRecDepth 100000
set_option linter.unusedSimpArgs false
set_option linter.unusedVariables false

theorem u8_nat (z : Int) : ∃ w : Nat, w < 256 ∧ IntKind.u8.wrap z = (w : Int) := by
  have h : IntKind.u8.wrap z = z % 256 := by simp [IntKind.wrap, IntKind.bits, IntKind.signed]
  exact ⟨(z % 256).toNat, by omega, by omega⟩

def txt1 (s : Str) : List AV := [.str s]
theorem txt_at {L : List Str} {i : Nat} {x : Str} (h : L[i]? = some x) : (L.flatMap txt1)[i]? = some (.str x) := by
  have h1 := flat_at (g := txt1) (es := 1) (fun _ => rfl) L i
  rw [Nat.mul_one, h] at h1
  have h3 : (((L.flatMap txt1).drop i).take 1)[0]? = some (.str x) := by rw [h1]; rfl
  rwa [drop_take0] at h3

def lgS (i : Nat) : Str := 49 :: List.replicate i 48
theorem lgS_succ (i : Nat) : lgS (i + 1) = lgS i ++ [48] := by unfold lgS; rw [List.replicate_succ']; rfl
theorem lgS_len (i : Nat) : (lgS i).length = i + 1 := by unfold lgS; simp

theorem bytes_at {s : Str} {j ch : Nat} (h : s[j]? = some ch) : (s.map fun (b : Nat) => AV.int .u8 (b : Int))[j]? = some (.int .u8 (ch : Int)) := by
  rw [List.getElem?_map, h]; rfl
theorem bytes_put {s : Str} {j w : Nat} (h : j < s.length) : List.take j (s.map fun (b : Nat) => AV.int .u8 (b : Int)) ++ [AV.int .u8 (w : Int)] ++ List.drop (j + 1) (s.map fun (b : Nat) => AV.int .u8 (b : Int)) = bytes (s.set j w) := by
  unfold bytes
  rw [List.set_eq_take_append_cons_drop, if_pos h, List.map_append, List.map_cons, List.map_take, List.map_drop, List.append_assoc]
  rfl

theorem law3_l1 {n : Nat} {s : Str} {L : List Str} {fr : Fr} {H : Heap} {KK : Ex → Fr → Heap → R} {Q : AV → Heap → Prop} (hn : 13 < n) (hL : L.length = 12)
    (e16 : ∀ x ∈ L, ∀ H, callN P4 n 16 [.str x] H = some (.ret (.bool (rightB x)), H)) (e17 : ∀ x ∈ L, ∀ H, callN P4 n 17 [.str x] H = some (.ret (.bool (rightB x)), H))
    (h13 : fr 13 = .str s) (h17 : fr 17 = .lst 1 12 true (L.flatMap txt1)) (h18 : fr 18 = .int .i64 (0 : Nat))
    (hK : ∀ (fr : Fr) (H : Heap), fr 13 = .str s → Gives (KK (.exit 2) fr H) Q) : Gives (loopR (callN P4 n) n c3_l1 n fr H KK) Q := by
  refine loop_rounds 12 (fun i fr H => fr 13 = .str s ∧ fr 17 = .lst 1 12 true (L.flatMap txt1) ∧ fr 18 = .int .i64 (i : Nat)) ?_ ?_ n 0 _ _ (by omega) (by omega) ⟨h13, h17, h18⟩
  · rintro i fr H K' hi ⟨h13, h17, h18⟩ hKe hKr hK'
    obtain ⟨x, hx⟩ : ∃ x, L[i]? = some x := ⟨L[i]'(by omega), List.getElem?_eq_getElem (by omega)⟩
    have hc := txt_at hx
    have e1 := e16 x (List.mem_of_getElem? hx)
    have e2 := e17 x (List.mem_of_getElem? hx)
    have hlt : (i : Int) < ((12 : Nat) : Int) := by omega
    have hw := wrap_succ (i := i) (n := 12) hi (by omega)
    have hbb : ∀ b : Bool, (b == b) = true := fun b => by cases b <;> rfl
    generalize L.flatMap txt1 = C at *
    generalize rightB x = rb at *
    simp -implicitDefEqProofs only [c3_l1, ↓v_lenS, SB, POp.val, AOp.val, WOp.val, Lite.bin, intBin, strBin, eqv, eqMany, eq1, AV.asBool, AV.asInt, AV.asNat, AV.asPtr, AV.asStr, resVals, ResV.val, oneOr, wants, skipped, fillAt, putAt, capOf, optNat, bnd, Nat.reduceBEq, reduceIte, Nat.reduceAdd, Nat.reduceLeDiff, Nat.reduceEqDiff, Nat.reduceSub, Nat.reduceMul, Nat.reduceDiv, SOper.again, same, sameBlk, sameCap, Nat.reduceBneDiff, s_draw2, s_pair, k_pair, asunder, SOper.into, Bool.not_false, Bool.not_true, CL, Nat.mul_one, h17, h18, hlt, hi, hc, e1, e2, hw, hbb]
    refine hK' _ _ ⟨?_, ?_, ?_⟩
    all_goals simp -implicitDefEqProofs only [↓v_lenS, SB, POp.val, AOp.val, WOp.val, Lite.bin, intBin, strBin, eqv, eqMany, eq1, AV.asBool, AV.asInt, AV.asNat, AV.asPtr, AV.asStr, resVals, ResV.val, oneOr, wants, skipped, fillAt, putAt, capOf, optNat, bnd, Nat.reduceBEq, reduceIte, Nat.reduceAdd, Nat.reduceLeDiff, Nat.reduceEqDiff, Nat.reduceSub, Nat.reduceMul, Nat.reduceDiv, SOper.again, same, sameBlk, sameCap, Nat.reduceBneDiff, s_draw2, s_pair, k_pair, asunder, SOper.into, Bool.not_false, Bool.not_true, h13, h17]
  · rintro fr H K' ⟨h13, h17, h18⟩ hKe hKr
    simp -implicitDefEqProofs only [c3_l1, ↓v_lenS, SB, POp.val, AOp.val, WOp.val, Lite.bin, intBin, strBin, eqv, eqMany, eq1, AV.asBool, AV.asInt, AV.asNat, AV.asPtr, AV.asStr, resVals, ResV.val, oneOr, wants, skipped, fillAt, putAt, capOf, optNat, bnd, Nat.reduceBEq, reduceIte, Nat.reduceAdd, Nat.reduceLeDiff, Nat.reduceEqDiff, Nat.reduceSub, Nat.reduceMul, Nat.reduceDiv, SOper.again, same, sameBlk, sameCap, Nat.reduceBneDiff, s_draw2, s_pair, k_pair, asunder, SOper.into, Bool.not_false, Bool.not_true, h17, h18, Int.lt_irrefl, hKe]
    refine hK _ _ ?_
    simp -implicitDefEqProofs only [↓v_lenS, SB, POp.val, AOp.val, WOp.val, Lite.bin, intBin, strBin, eqv, eqMany, eq1, AV.asBool, AV.asInt, AV.asNat, AV.asPtr, AV.asStr, resVals, ResV.val, oneOr, wants, skipped, fillAt, putAt, capOf, optNat, bnd, Nat.reduceBEq, reduceIte, Nat.reduceAdd, Nat.reduceLeDiff, Nat.reduceEqDiff, Nat.reduceSub, Nat.reduceMul, Nat.reduceDiv, SOper.again, same, sameBlk, sameCap, Nat.reduceBneDiff, s_draw2, s_pair, k_pair, asunder, SOper.into, Bool.not_false, Bool.not_true, h13]

set_option maxHeartbeats 1000000 in
theorem law3 (f : Bool) (ks : List Int) (neg : Bool) (t : Str) (a c m : Int) (hks : ks.length ≤ 9223372036854775807) (ht : t.length ≤ 4611686018427387904) : Ret P4 3 [vI f ks, .bool neg, .str t, .int .i64 a, .int .u8 c, .int .i64 m] (.bool true) := by
  refine Ret.of rfl (code3 _ _) rfl rfl (fun H => by simp -implicitDefEqProofs only [↓v_lenS, SB, POp.val, AOp.val, WOp.val, Lite.bin, intBin, strBin, eqv, eqMany, eq1, AV.asBool, AV.asInt, AV.asNat, AV.asPtr, AV.asStr, resVals, ResV.val, oneOr, wants, skipped, fillAt, putAt, capOf, optNat, bnd, Nat.reduceBEq, reduceIte, Nat.reduceAdd, Nat.reduceLeDiff, Nat.reduceEqDiff, Nat.reduceSub, Nat.reduceMul, Nat.reduceDiv, SOper.again, same, sameBlk, sameCap, Nat.reduceBneDiff, s_draw2, s_pair, k_pair, asunder, SOper.into, Bool.not_false, Bool.not_true, IS]) ?_
  by_cases h300 : t.length ≤ 300
  · have n0 := num14 f ks 60 neg hks (by omega)
    have lx := numZ_lt ks 60 neg
    generalize numZ ks 60 neg = x at *
    have hsl := decZ_len lx (by omega)
    have hsr := right_decZ (z := x) (lift_pow lx (by omega))
    have hsne := decZ_ne x
    have hs256 : ∀ ch ∈ decZ x, ch < 256 := fun ch h => by
      unfold decZ at h; split at h
      · rcases List.mem_cons.1 h with h | h
        · omega
        · exact decN_256 _ ch h
      · exact decN_256 _ ch h
    generalize decZ x = s at *
    have hs0 : 0 < s.length := List.length_pos_iff.2 hsne
    have hj := within_range a (b := (s.length : Int)) (by omega) (by omega)
    have hm := within_range m (b := 10) (by omega) (by omega)
    have w1 := within15 a (s.length : Int) (by omega)
    have w2 := within15 m 10 (by omega)
    obtain ⟨j, hjd⟩ : ∃ j : Nat, within a (s.length : Int) = (j : Int) := ⟨(within a (s.length : Int)).toNat, by omega⟩
    obtain ⟨g, hgd⟩ : ∃ g : Nat, within m 10 = (g : Int) := ⟨(within m 10).toNat, by omega⟩
    rw [hjd] at w1 hj
    rw [hgd] at w2 hm
    have hjl : j < s.length := by omega
    obtain ⟨ch, hch⟩ : ∃ ch, s[j]? = some ch := ⟨s[j], List.getElem?_eq_getElem hjl⟩
    obtain ⟨w, hw256, hww⟩ := u8_nat ((ch : Int) + c)
    have hput := bytes_put (w := w) hjl
    have hbat := bytes_at hch
    have lgood := fun i => lgS_len i
    obtain ⟨L, hLd⟩ : ∃ L : List Str, L = [s, s.set j w, t, 48 :: s, 45 :: s, 43 :: s, s ++ [32], [], [45], [48, 48], lgS (195 + g), 45 :: lgS (195 + g)] := ⟨_, rfl⟩
    have hL12 : L.length = 12 := by rw [hLd]; rfl
    have hLs : ∀ x ∈ L, x.length ≤ 4611686018427387904 := by
      rw [hLd]
      intro x hx
      have := lgS_len (195 + g)
      simp only [List.mem_cons, List.not_mem_nil, or_false] at hx
      rcases hx with rfl | rfl | rfl | rfl | rfl | rfl | rfl | rfl | rfl | rfl | rfl | rfl
      all_goals (try simp only [List.length_cons, List.length_nil, List.length_append, List.length_set])
      all_goals omega
    have r16 := Ev.all L fun x hx => right16 x (hLs x hx)
    have r17 := Ev.all L fun x hx => right17 x (hLs x hx)
    have rS := right16 s (by omega)
    rw [hsr] at rS
    refine (known13.and (n0.and (w1.and (w2.and (r16.and (r17.and (rS.and (Ev.ge 400)))))))).mono fun n e H => ?_
    obtain ⟨e0, e1, e2, e3, e4, e5, e6, hge⟩ := e
    have e60 : ((60 : Nat) : Int) = 60 := rfl
    rw [e60] at e1
    have c1 : ¬ (t.length : Int) > 300 := by omega
    have c2 : s.length ≤ 1099511627776 := by omega
    have cb : (s.map fun (b : Nat) => AV.int .u8 (b : Int)).length = s.length := List.length_map ..
    have cj : j + 1 ≤ s.length := by omega
    have hja : ((j : Int) ≥ 0) := by omega
    generalize hSB : (s.map fun (b : Nat) => AV.int .u8 (b : Int)) = SBs at *
    simp -implicitDefEqProofs only [c3, ↓v_lenS, SB, POp.val, AOp.val, WOp.val, Lite.bin, intBin, strBin, eqv, eqMany, eq1, AV.asBool, AV.asInt, AV.asNat, AV.asPtr, AV.asStr, resVals, ResV.val, oneOr, wants, skipped, fillAt, putAt, capOf, optNat, bnd, Nat.reduceBEq, reduceIte, Nat.reduceAdd, Nat.reduceLeDiff, Nat.reduceEqDiff, Nat.reduceSub, Nat.reduceMul, Nat.reduceDiv, SOper.again, same, sameBlk, sameCap, Nat.reduceBneDiff, s_draw2, s_pair, k_pair, asunder, SOper.into, Bool.not_false, Bool.not_true, CL, IS, e0, e1, e2, c1, c2, cb, hSB, hjl, Nat.mul_one, hbat, hww, hput, cj]
    refine loop_rounds (195 + g) (fun i fr H => fr 2 = .str t ∧ fr 5 = .int .i64 m ∧ fr 13 = .str s ∧ fr 14 = .slice (.new 0) 0 s.length (.gro 1) ∧ fr 15 = .str (lgS i) ∧ fr 16 = .int .i64 (i : Nat) ∧ H.t.get 0 = some (.row (bytes (s.set j w)) 1 false none)) ?_ ?_ n 0 _ _ (by omega) (by omega) ?_
    · rintro i fr H K' hi ⟨h2, h5, h13, h14, h15, h16, g0⟩ hKe hKr hK
      have hw0 : IntKind.i64.wrap (195 + (g : Int)) = ((195 + g : Nat) : Int) := by rw [wrap64 (by omega) (by omega)]; omega
      have hlt : (i : Int) < ((195 + g : Nat) : Int) := by omega
      have hw := wrap_succ (i := i) (n := 195 + g) hi (by omega)
      have hl : (lgS i).length + 1 ≤ 4611686018427387904 := by rw [lgS_len]; omega
      rw [lgS_succ] at hK
      generalize lgS i = lg at *
      simp -implicitDefEqProofs only [c3_l0, ↓v_lenS, SB, POp.val, AOp.val, WOp.val, Lite.bin, intBin, strBin, eqv, eqMany, eq1, AV.asBool, AV.asInt, AV.asNat, AV.asPtr, AV.asStr, resVals, ResV.val, oneOr, wants, skipped, fillAt, putAt, capOf, optNat, bnd, Nat.reduceBEq, reduceIte, Nat.reduceAdd, Nat.reduceLeDiff, Nat.reduceEqDiff, Nat.reduceSub, Nat.reduceMul, Nat.reduceDiv, SOper.again, same, sameBlk, sameCap, Nat.reduceBneDiff, s_draw2, s_pair, k_pair, asunder, SOper.into, Bool.not_false, Bool.not_true, CL, h5, h15, h16, e3, hw0, hlt, hl, hw]
      refine hK _ _ ⟨?_, ?_, ?_, ?_, ?_, ?_, g0⟩
      all_goals simp -implicitDefEqProofs only [↓v_lenS, SB, POp.val, AOp.val, WOp.val, Lite.bin, intBin, strBin, eqv, eqMany, eq1, AV.asBool, AV.asInt, AV.asNat, AV.asPtr, AV.asStr, resVals, ResV.val, oneOr, wants, skipped, fillAt, putAt, capOf, optNat, bnd, Nat.reduceBEq, reduceIte, Nat.reduceAdd, Nat.reduceLeDiff, Nat.reduceEqDiff, Nat.reduceSub, Nat.reduceMul, Nat.reduceDiv, SOper.again, same, sameBlk, sameCap, Nat.reduceBneDiff, s_draw2, s_pair, k_pair, asunder, SOper.into, Bool.not_false, Bool.not_true, h2, h5, h13, h14]
    · rintro fr H K' ⟨h2, h5, h13, h14, h15, h16, g0⟩ hKe hKr
      have hw0 : IntKind.i64.wrap (195 + (g : Int)) = ((195 + g : Nat) : Int) := by rw [wrap64 (by omega) (by omega)]; omega
      have hset256 : ∀ ch ∈ s.set j w, ch < 256 := fun ch h => by
        rcases List.mem_or_eq_of_mem_set h with h | h
        · exact hs256 ch h
        · rw [h]; exact hw256
      have hstr : strOfBytes H (.slice (.new 0) 0 s.length (.gro 1)) = some (.str (s.set j w)) := by
        have e1 : (List.drop 0 (bytes (s.set j w))).take s.length = bytes (s.set j w) := by rw [List.drop_zero, List.take_of_length_le (by rw [bytes_len, List.length_set]; omega)]
        have e2 : (bytes (s.set j w)).length = s.length := by rw [bytes_len, List.length_set]
        simp only [strOfBytes, h_ldn, h_cells, g0, k_cells, k_ldn, e1, e2, if_true, Option.bind_some, bytesOf_bytes (s.set j w) hset256, Option.map_some]
      have hlgl := lgS_len (195 + g)
      generalize lgS (195 + g) = lg at *
      generalize s.set j w = sb at *
      have l1 : 1 + s.length ≤ 4611686018427387904 := by omega
      have l2 : s.length + 1 ≤ 4611686018427387904 := by omega
      have l3 : 1 + lg.length ≤ 4611686018427387904 := by omega
      simp -implicitDefEqProofs only [c3_l0, ↓v_lenS, SB, POp.val, AOp.val, WOp.val, Lite.bin, intBin, strBin, eqv, eqMany, eq1, AV.asBool, AV.asInt, AV.asNat, AV.asPtr, AV.asStr, resVals, ResV.val, oneOr, wants, skipped, fillAt, putAt, capOf, optNat, bnd, Nat.reduceBEq, reduceIte, Nat.reduceAdd, Nat.reduceLeDiff, Nat.reduceEqDiff, Nat.reduceSub, Nat.reduceMul, Nat.reduceDiv, SOper.again, same, sameBlk, sameCap, Nat.reduceBneDiff, s_draw2, s_pair, k_pair, asunder, SOper.into, Bool.not_false, Bool.not_true, CL, h2, h5, h13, h14, h15, h16, e3, hw0, Int.lt_irrefl, hKe, k_blockE, hstr, l1, l2, l3]
      refine law3_l1 (s := s) (L := L) (by omega) hL12 e4 e5 ?_ ?_ ?_ ?_
      · simp -implicitDefEqProofs only [↓v_lenS, SB, POp.val, AOp.val, WOp.val, Lite.bin, intBin, strBin, eqv, eqMany, eq1, AV.asBool, AV.asInt, AV.asNat, AV.asPtr, AV.asStr, resVals, ResV.val, oneOr, wants, skipped, fillAt, putAt, capOf, optNat, bnd, Nat.reduceBEq, reduceIte, Nat.reduceAdd, Nat.reduceLeDiff, Nat.reduceEqDiff, Nat.reduceSub, Nat.reduceMul, Nat.reduceDiv, SOper.again, same, sameBlk, sameCap, Nat.reduceBneDiff, s_draw2, s_pair, k_pair, asunder, SOper.into, Bool.not_false, Bool.not_true, h13]
      · simp -implicitDefEqProofs only [↓v_lenS, SB, POp.val, AOp.val, WOp.val, Lite.bin, intBin, strBin, eqv, eqMany, eq1, AV.asBool, AV.asInt, AV.asNat, AV.asPtr, AV.asStr, resVals, ResV.val, oneOr, wants, skipped, fillAt, putAt, capOf, optNat, bnd, Nat.reduceBEq, reduceIte, Nat.reduceAdd, Nat.reduceLeDiff, Nat.reduceEqDiff, Nat.reduceSub, Nat.reduceMul, Nat.reduceDiv, SOper.again, same, sameBlk, sameCap, Nat.reduceBneDiff, s_draw2, s_pair, k_pair, asunder, SOper.into, Bool.not_false, Bool.not_true]; rw [hLd]; rfl
      · simp -implicitDefEqProofs only [↓v_lenS, SB, POp.val, AOp.val, WOp.val, Lite.bin, intBin, strBin, eqv, eqMany, eq1, AV.asBool, AV.asInt, AV.asNat, AV.asPtr, AV.asStr, resVals, ResV.val, oneOr, wants, skipped, fillAt, putAt, capOf, optNat, bnd, Nat.reduceBEq, reduceIte, Nat.reduceAdd, Nat.reduceLeDiff, Nat.reduceEqDiff, Nat.reduceSub, Nat.reduceMul, Nat.reduceDiv, SOper.again, same, sameBlk, sameCap, Nat.reduceBneDiff, s_draw2, s_pair, k_pair, asunder, SOper.into, Bool.not_false, Bool.not_true]; rfl
      · intro fr H h13
        simp -implicitDefEqProofs only [↓v_lenS, SB, POp.val, AOp.val, WOp.val, Lite.bin, intBin, strBin, eqv, eqMany, eq1, AV.asBool, AV.asInt, AV.asNat, AV.asPtr, AV.asStr, resVals, ResV.val, oneOr, wants, skipped, fillAt, putAt, capOf, optNat, bnd, Nat.reduceBEq, reduceIte, Nat.reduceAdd, Nat.reduceLeDiff, Nat.reduceEqDiff, Nat.reduceSub, Nat.reduceMul, Nat.reduceDiv, SOper.again, same, sameBlk, sameCap, Nat.reduceBneDiff, s_draw2, s_pair, k_pair, asunder, SOper.into, Bool.not_false, Bool.not_true, CL, k_blockE, h13, e6, gives_ret]
        exact ⟨_, rfl⟩
    · refine ⟨?_, ?_, ?_, ?_, ?_, ?_, ?_⟩
      all_goals simp -implicitDefEqProofs only [↓v_lenS, SB, POp.val, AOp.val, WOp.val, Lite.bin, intBin, strBin, eqv, eqMany, eq1, AV.asBool, AV.asInt, AV.asNat, AV.asPtr, AV.asStr, resVals, ResV.val, oneOr, wants, skipped, fillAt, putAt, capOf, optNat, bnd, Nat.reduceBEq, reduceIte, Nat.reduceAdd, Nat.reduceLeDiff, Nat.reduceEqDiff, Nat.reduceSub, Nat.reduceMul, Nat.reduceDiv, SOper.again, same, sameBlk, sameCap, Nat.reduceBneDiff, s_draw2, s_pair, k_pair, asunder, SOper.into, Bool.not_false, Bool.not_true]
      all_goals rfl
  · have c1 : (t.length : Int) > 300 := by omega
    refine known13.mono fun n e0 H => ?_
    simp -implicitDefEqProofs only [c3, ↓v_lenS, SB, POp.val, AOp.val, WOp.val, Lite.bin, intBin, strBin, eqv, eqMany, eq1, AV.asBool, AV.asInt, AV.asNat, AV.asPtr, AV.asStr, resVals, ResV.val, oneOr, wants, skipped, fillAt, putAt, capOf, optNat, bnd, Nat.reduceBEq, reduceIte, Nat.reduceAdd, Nat.reduceLeDiff, Nat.reduceEqDiff, Nat.reduceSub, Nat.reduceMul, Nat.reduceDiv, SOper.again, same, sameBlk, sameCap, Nat.reduceBneDiff, s_draw2, s_pair, k_pair, asunder, SOper.into, Bool.not_false, Bool.not_true, CL, e0, c1, Ends, gives_ret]
    exact ⟨_, rfl⟩

end Go.Lite

/- The row of the law BigRight, and its card: what its call does, from the interpreter's run; what it lists, tied to the program's text. -/
namespace Go.Proofs.YtpnbhbacpkoddaaDoor.bigRight
open Go.ChangeShapes Go.WideShapes Go.ChangeAt Go.RowKit Go.Lite
open Go.ChangeMaps (open_string shut_string)
set_option linter.unusedVariables false
set_option maxRecDepth 100000
theorem own : ownKnob Tryd.prog.godebug = none := by kernel_rfl
theorem laidOut : laidOutB Tryd.prog = true := by kernel_rfl
theorem laid_met (os : Os) : laidMet Tryd.prog Rows.bigRightRow.laid ((laidWorld Tryd.prog os [(2, Rows.laid_math_bits_deBruijn32tab), (3, Rows.laid_math_bits_deBruijn64tab), (0, Rows.laid_internal_strconv_uint64pow10)]).forCall (fun _ _ => 0) ⟨#[], #[.slice none 0 0, .bool false, .string ByteArray.empty, .int .i64 0, .int .u8 0, .int .i64 0], []⟩).memory :=
  laidMet_of_run' 8 (by kernel_rfl) (by kernel_rfl)
theorem lifted (os : Os) (started : os.Started) (H : Type) (enc : TypeId × Value → H) :
    ReturnsInHanded {} Tryd.checked os 3 .any (fun w args => (Rows.bigRightSpec.pre enc Tryd.prog Tryd.f3 Rows.bigRightRow.domain false w args ∧ laidMet Tryd.prog Rows.bigRightRow.laid w) ∧ sizedMet enc Tryd.prog Tryd.f3 (OpenSpec.ofChange Rows.bigRightSpec) false w args) (Rows.bigRightSpec.post enc Tryd.prog Tryd.f3 false true false false) := by
  refine returns_laid (C := Tryd.checked) (X := fun w _ => laidMet Tryd.prog Rows.bigRightRow.laid w) own started (by kernel_rfl) Tryd.func3
    (ChangeSpec.witness_at (enc := enc) (C := Tryd.checked) (os := os) (X := fun w _ => laidMet Tryd.prog Rows.bigRightRow.laid w) false (laidWorld Tryd.prog os [(2, Rows.laid_math_bits_deBruijn32tab), (3, Rows.laid_math_bits_deBruijn64tab), (0, Rows.laid_internal_strconv_uint64pow10)]) #[.slice none 0 0, .bool false, .string ByteArray.empty, .int .i64 0, .int .u8 0, .int .i64 0] 8 rfl (by kernel_rfl) (by kernel_rfl) (by kernel_rfl) (by kernel_rfl) (by kernel_rfl) (laid_met os)) ?_
  intro W base args ds gs before hval0 hW hcnd hsz0 hsh hlx _
  have hsz : (DataW.weightsEach Tryd.prog (Tryd.f3.params.toList ++ Rows.bigRightSpec.plain.varTypes Tryd.prog) (ds ++ gs)).all (· ≤ reachBytes) = true := hsz0
  have hval : ∀ (j : Nat) t v, Tryd.f3.params[j]? = some t → args[j]? = some v → Value.okWide Tryd.prog W .any base t v := hval0
  have hW' := hW
  obtain ⟨p, q, hA0, hV, rfl, hfz, hnd⟩ := hW
  have hA : DataW.TrodAll enc Tryd.prog W 0 (fun _ => true) true Tryd.f3.params.toList args.toList ds p := hA0
  rw [Tryd.params3] at hA hval hsz
  obtain ⟨v0, vs0, d0, ds0, p0, q0, hargs, rfl, rfl, h0, r0⟩ := trodAll_cons hA
  obtain ⟨v1, vs1, d1, ds1, p1, q1, rfl, rfl, rfl, h1, r1⟩ := trodAll_cons r0
  obtain ⟨v2, vs2, d2, ds2, p2, q2, rfl, rfl, rfl, h2, r2⟩ := trodAll_cons r1
  obtain ⟨v3, vs3, d3, ds3, p3, q3, rfl, rfl, rfl, h3, r3⟩ := trodAll_cons r2
  obtain ⟨v4, vs4, d4, ds4, p4, q4, rfl, rfl, rfl, h4, r4⟩ := trodAll_cons r3
  obtain ⟨v5, vs5, d5, ds5, p5, q5, rfl, rfl, rfl, h5, r5⟩ := trodAll_cons r4
  obtain ⟨rfl, rfl, rfl⟩ := trodAll_nil r5
  obtain rfl : args = #[v0, v1, v2, v3, v4, v5] := by cases args; simp_all
  obtain ⟨rfl, rfl⟩ := trodVars_none hV
  have k0 := h0
  have lt0 : ∀ x ∈ p0, x.block < W.heap.size := by obtain ⟨m, hm⟩ := k0; exact DataW.trod_lt m _ _ _ hm
  have o0 := (hval 0 22 v0 rfl rfl)
  obtain ⟨z0, n0, c0, rfl⟩ := okWide_slice Tryd.underlying22 o0
  obtain ⟨g0, y0⟩ := h0
  obtain ⟨a0, w0, e0⟩ := open_ints Tryd.underlying22 Tryd.underlying3 (by kernel_rfl) (u := .slice z0 n0 c0) (by simpa [Value.cells] using y0)
  obtain ⟨a1, rfl, rfl, rfl⟩ := open_bool Tryd.underlying4 (hval 1 4 v1 rfl rfl) h1
  obtain ⟨a2, rfl, rfl, rfl, y2⟩ := open_string Tryd.underlying9 (hval 2 9 v2 rfl rfl) h2
  have w2 : a2.size ≤ 140737488351232 := by
    have z := sized_string hsz (j := 2) (t := 9) rfl rfl
    rw [Array.length_toList] at z
    exact z
  obtain ⟨a3, rfl, rfl, rfl, w3⟩ := open_int Tryd.underlying3 (hval 3 3 v3 rfl rfl) h3
  obtain ⟨a4, rfl, rfl, rfl, w4⟩ := open_int Tryd.underlying5 (hval 4 5 v4 rfl rfl) h4
  obtain ⟨a5, rfl, rfl, rfl, w5⟩ := open_int Tryd.underlying3 (hval 5 3 v5 rfl rfl) h5
  refine (calls_of_ret hsh (tab_of_laid hlx) (law3 _ _ a1 (a2.data.toList.map (·.toNat)) a3 a4 a5 w0 (by rw [List.length_map, Array.length_toList]; exact Nat.le_trans w2 (by decide))) (by simp only [VRels]; exact ⟨_, _, rfl, e0, _, _, rfl, rfl, _, _, rfl, ⟨_, rfl, rfl⟩, _, _, rfl, rfl, _, _, rfl, rfl, _, _, rfl, rfl, rfl⟩)).mono fun e W' ⟨he, bel⟩ => ?_
  subst he
  exact ⟨_, rfl, _, _, _, [], _, [], hW', trodAll_mk1 (shut_bool Tryd.underlying4 _), (trodAll_cons_mk (Below.trod laidOut (by kernel_rfl) (of_decide_eq_true (by kernel_rfl)) k0 bel lt0) (trodAll_cons_mk (shut_bool Tryd.underlying4 _) (trodAll_cons_mk (shut_string Tryd.underlying9 y2) (trodAll_cons_mk (shut_int Tryd.underlying3 w3) (trodAll_cons_mk (shut_int Tryd.underlying5 w4) (trodAll_cons_mk (shut_int Tryd.underlying3 w5) trodAll_mk0)))))), rfl, bel.frame _, fun h => by cases h⟩
theorem over : Rows.bigRightRow.holds Tryd.pinned (OpenSpec.ofChange Rows.bigRightSpec) :=
  OpenClaim.holds_of_wide 3 Tryd.f3 rfl rfl rfl rfl rfl rfl rfl ⟨rfl, rfl, rfl, rfl, rfl⟩ rfl rfl rfl rfl rfl (by kernel_rfl) Tryd.func3 (by kernel_rfl)
    (of_decide_eq_true (by kernel_rfl)) (by unfold Func.isWrapper; first | (rw [if_pos (by decide +kernel)]; kernel_rfl) | (rw [if_neg (by decide +kernel)]; exact ⟨rfl, rfl⟩))
    (fun os started H enc _ => lifted os started H enc)
theorem card : Rows.BigRightCardSaid :=
  Claim7.holds_tied_plain_at .later [] [.data, .data, .data] true (true, "3f6c65230efcc366f875a5b532b9a48e131542a205115071931acd097d8d462f") false over (fun _ h => by cases h) (by kernel_rfl) (fun _ h => by cases h) bigRight_row_tie rfl ⟨rfl, rfl⟩ (by kernel_rfl) (by first | rfl | decide)
    (fun f fn h1 h2 => by
      obtain rfl : f = 3 := Option.some.inj (h1.symm.trans (by kernel_rfl))
      obtain rfl : fn = Tryd.f3 := Option.some.inj (h2.symm.trans Tryd.func3)
      refine ⟨by kernel_rfl, fun j t hj => ?_⟩
      rw [Tryd.params3] at hj
      match j, hj with
      | 0, hj =>
        obtain rfl : t = 22 := by simpa using hj.symm
        exact (by kernel_rfl : Tryd.pinned.checked.prog.wantsStandIn 22 = false)
      | 1, hj =>
        obtain rfl : t = 4 := by simpa using hj.symm
        exact (by kernel_rfl : Tryd.pinned.checked.prog.wantsStandIn 4 = false)
      | 2, hj =>
        obtain rfl : t = 9 := by simpa using hj.symm
        exact (by kernel_rfl : Tryd.pinned.checked.prog.wantsStandIn 9 = false)
      | 3, hj =>
        obtain rfl : t = 3 := by simpa using hj.symm
        exact (by kernel_rfl : Tryd.pinned.checked.prog.wantsStandIn 3 = false)
      | 4, hj =>
        obtain rfl : t = 5 := by simpa using hj.symm
        exact (by kernel_rfl : Tryd.pinned.checked.prog.wantsStandIn 5 = false)
      | 5, hj =>
        obtain rfl : t = 3 := by simpa using hj.symm
        exact (by kernel_rfl : Tryd.pinned.checked.prog.wantsStandIn 3 = false)
      | j + 6, hj => simp at hj)
    (by kernel_rfl)
#print axioms card
end Go.Proofs.YtpnbhbacpkoddaaDoor.bigRight
namespace Go.Proofs.YtpnbhbacpkoddaaDoor
/-- The card, under a short name, for the claim. -/
theorem bigRight_holds : Rows.BigRightCardSaid := bigRight.card
end Go.Proofs.YtpnbhbacpkoddaaDoor
