/- The row of the law NormArgs, and its card: what its call does, from the interpreter's run; what it lists, tied to the program's text. -/
import Derived.Test.YtlncgbcclmhicaaDoorQnE
import Derived.Test.YtlncgbcclmhicaaDoorQnB
import Derived.Test.YtlncgbcclmhicaaDoorTie
import Derived.Test.YtlncgbcclmhicaaDoorCards
import Derived.WalkKit
import Derived.ProofKit
import Derived.OpenShut
import Derived.ShutString
import Derived.ChangeOld
import Derived.Below
import Derived.SizedLaws
import Derived.HandedShaped
import Derived.Carry
import Derived.SevenTiedAt

/-
  The law NormArgs.
-/
namespace Go.Lite
open Go Go.Proofs
set_option maxRecDepth 100000
set_option linter.unusedSimpArgs false
set_option linter.unusedVariables false

theorem Gr.shut {H : Heap} {n d : Nat} {cs : List AV} {v : AV} {l : List X} (h : Gr H n cs v) (ht : Tells cs (l.flatMap X.cells)) (hl : l.length = n) (low : HLow H) : ∃ H', shutC (d + 1) v H = some (vXs l, H') ∧ HKeep (blk v) H H' := by
  have hcs0 : n = 0 → cs = [] := fun h0 => by
    rcases h with (⟨_, h, _⟩ | ⟨h, _⟩) | ⟨_, h, _⟩
    · exact h
    · exact absurd h0 h
    · exact absurd h0 h
  rcases h with (⟨h0, rfl, rfl⟩ | ⟨h0, hcl, k, rfl, _, gk⟩) | ⟨rfl, h0, hcl, _, hst⟩
  · obtain rfl := List.eq_nil_of_length_eq_zero (hl.trans h0)
    exact ⟨H, rfl, HKeep.refl⟩
  · refine ⟨H.put k (.row cs 4 true (some 28)), ?_, ⟨Nat.le_refl _, fun j o hj ho => ?_, fun l => l.put (low k _ gk)⟩⟩
    · simp only [shutC, gk, shutRow, List.drop_zero, Cap.es]
      have htk : cs.take (n * 4) = cs := by rw [← hcl, List.take_length]
      rw [htk, if_pos ⟨hcl, .inr (by decide)⟩, ht]
      simp only [Option.map_some]
      rw [← hl]
      cases l with
      | nil => exact absurd hl.symm h0
      | cons x l => rfl
    · rw [h_gput, if_neg]
      · exact hj
      · rintro rfl
        exact ho ⟨_, _, _, rfl⟩
  · have h1 : cs = l.flatMap X.cells := by
      have h2 := ht 0 H
      rw [hst 0 H] at h2
      simp only [Option.some.injEq, Prod.mk.injEq, and_true] at h2
      exact h2
    refine ⟨H, ?_, HKeep.refl⟩
    rw [shutC_lstF, h1, ← hl]
    rfl

/-- a loop, of whose rest no more is known than what it needs -/
theorem loop_gen9 {call : CallF} {n m : Nat} {c : SCode} {fr : Fr} {H : Heap} {KK : Ex → Fr → Heap → R} {Q : AV → Heap → Prop} (J : Ex → Fr → Heap → Prop) (hfin : ∀ e fr H, J e fr H → Gives (KK e fr H) Q)
    (hl : ∀ KK' : Ex → Fr → Heap → R, (∀ e fr H, J e fr H → Gives (KK' e fr H) Q) → Gives (loopR call n c m fr H KK') Q) : Gives (loopR call n c m fr H KK) Q := hl KK hfin

theorem bindAll_drop {l : List (Str × X)} {j : Nat} {p : Str × X} (h : l[j]? = some p) (x : X) : bindAll (l.drop j) x = bindX p.1 p.2 (bindAll (l.drop (j + 1)) x) := by
  have hj := (List.getElem?_eq_some_iff.1 h).1
  rw [List.getElem?_eq_getElem hj] at h
  simp only [Option.some.injEq] at h
  rw [List.drop_eq_getElem_cons hj, h]
  rfl

theorem drop4 {a b c d e f g h : AV} : List.take 4 (List.drop (1 * 4) ([a, b, c, d] ++ [e, f, g, h])) = [e, f, g, h] := rfl

/-- the bound names are taken off -/
theorem args_l1 {n : Nat} {bs : List Bool} {core : X} {cons : Bool} {u : AV} {kb : Nat} {NC : List AV} {fr : Fr} {H : Heap} {KK : Ex → Fr → Heap → R} {Q : AV → Heap → Prop} (hb : bs.length ≤ 6) (hn : 10 ≤ n)
    (acc : Acc 3 H 9 1 bs.length NC u) (low : HLow H) (g : H.t.get kb = some (.row (bindAll (outL bs 0) core).cells 0 false (some 28)))
    (h1 : fr 1 = .bool cons) (h8 : fr 8 = .int .i64 (cntA bs : Nat)) (h9 : fr 9 = u) (h12 : fr 12 = .ptr (.new kb) 0) (h13 : fr 13 = .int .i64 1)
    (hK : ∀ (fr : Fr) (H : Heap), Acc 3 H 9 1 bs.length NC u → HLow H → H.t.get kb = some (.row core.cells 0 false (some 28)) → fr 1 = .bool cons → fr 9 = u → fr 12 = .ptr (.new kb) 0 → Gives (KK (.exit 2) fr H) Q) : Gives (loopR (callN P3 n) n c9_l1 n fr H KK) Q := by
  have hcb := cntA_le bs
  refine loop_rounds (cntA bs) (fun j fr H => Acc 3 H 9 1 bs.length NC u ∧ HLow H ∧ H.t.get kb = some (.row (bindAll ((outL bs 0).drop j) core).cells 0 false (some 28)) ∧ fr 1 = .bool cons ∧ fr 8 = .int .i64 (cntA bs : Nat) ∧ fr 9 = u ∧ fr 12 = .ptr (.new kb) 0 ∧ fr 13 = .int .i64 (j + 1 : Nat)) ?_ ?_ n 0 _ _ (Nat.zero_le _) (by omega) ⟨acc, low, g, h1, h8, h9, h12, by rw [h13]; rfl⟩
  · rintro j fr H K' hj ⟨acc, low, g, h1, h8, h9, h12, h13⟩ hKe hKr hK'
    have hat := outL_at bs 0 j hj
    rw [Nat.zero_add] at hat
    rw [bindAll_drop hat] at g
    generalize bindAll ((outL bs 0).drop (j + 1)) core = y at *
    obtain ⟨ky, ty, ny, ly⟩ := y
    have hle : ((j + 1 : Nat) : Int) ≤ (cntA bs : Int) := by omega
    have hd : j + 1 < 10 := by omega
    have hpct := numT_small hd
    have hws : IntKind.i64.wrap (48 + ((j + 1 : Nat) : Int)) = ((48 + (j + 1) : Nat) : Int) := by rw [wrap64 (by omega) (by omega)]; omega
    have hby : ∀ m : Nat, m < 10 → IntKind.u8.wrap ((48 + m : Nat) : Int) = ((48 + m : Nat) : Int) ∧ bytesOf [AV.int .u8 ((48 + m : Nat) : Int)] = some [48 + m] := by decide
    obtain ⟨hb1, hb2⟩ := hby _ hd
    have hlen : 2 + 1 ≤ 4611686018427387904 := by omega
    have hw := wrap_succ (i := j + 1) (n := j + 2) (by omega) (by omega)
    simp only [bindX, X.cells_mk, vStrs_one, vXs_two, notA, hpct] at g
    have nkb := low.lt g
    have z1 : ¬ kb = H.n := by omega
    have e9 : ((9 : Int) != 9) = false := rfl
    have e1 : (((1 : Nat) : Int) != 1) = false := rfl
    have e2 : (((2 : Nat) : Int) != 2) = false := rfl
    have es : ∀ s : Str, (s == s) = true := fun s => by simp
    have i1 : ((0 : Int) ≤ 1) = True := by simp
    have i2 : Int.toNat 1 = 1 := rfl
    have lt1 : (0 : Nat) < 1 := by omega
    have lt2 : (1 : Nat) < 2 := by omega
    generalize vXs [oneA] = w at *
    simp -implicitDefEqProofs only [c9_l1, ↓v_lenS, SB, POp.val, AOp.val, WOp.val, Lite.bin, intBin, strBin, eqv, eqMany, eq1, AV.asBool, AV.asInt, AV.asNat, AV.asPtr, AV.asStr, resVals, ResV.val, oneOr, wants, skipped, fillAt, putAt, capOf, optNat, bnd, Nat.reduceBEq, reduceIte, Nat.reduceAdd, Nat.reduceLeDiff, Nat.reduceEqDiff, Nat.reduceSub, Nat.reduceMul, Nat.reduceDiv, SOper.again, same, sameBlk, sameCap, Nat.reduceBneDiff, s_draw2, s_pair, k_pair, asunder, SOper.into, Bool.not_false, Bool.not_true, CL, XS, h8, h9, h12, h13, g, hle, e9, e1, e2, es, i1, i2, Int.le_refl, Int.toNat_zero, lt1, lt2, hws, hb1, hb2, strOfBytes, hlen, drop4, z1, hw]
    have low2 := low.push (ob := .row [.int .u8 ((48 + (j + 1) : Nat) : Int)] 0 true none)
    have gk2 : (H.push (.row [.int .u8 ((48 + (j + 1) : Nat) : Int)] 0 true none)).t.get kb = some (.row [.int .i64 9, .str [], .lst 1 1 false [.str [37, 46, 48 + (j + 1)]], .lst 4 2 false ([.int .i64 10, .str [110, 111, 116], vStrs [], w] ++ [.int .i64 ky, .str ty, vStrs ny, vXs ly])] 0 false (some 28)) := by
      rw [h_get, if_neg z1]; exact g
    refine hK' _ _ ⟨(acc.push low).put (by decide) gk2, low2.put (low2.lt gk2), ?_, ?_, ?_, ?_, ?_, ?_⟩
    · rw [h_gput, if_pos rfl, X.cells_mk]
    all_goals simp -implicitDefEqProofs only [↓v_lenS, SB, POp.val, AOp.val, WOp.val, Lite.bin, intBin, strBin, eqv, eqMany, eq1, AV.asBool, AV.asInt, AV.asNat, AV.asPtr, AV.asStr, resVals, ResV.val, oneOr, wants, skipped, fillAt, putAt, capOf, optNat, bnd, Nat.reduceBEq, reduceIte, Nat.reduceAdd, Nat.reduceLeDiff, Nat.reduceEqDiff, Nat.reduceSub, Nat.reduceMul, Nat.reduceDiv, SOper.again, same, sameBlk, sameCap, Nat.reduceBneDiff, s_draw2, s_pair, k_pair, asunder, SOper.into, Bool.not_false, Bool.not_true, h1, h8, h9, h12]
  · rintro fr H K' ⟨acc, low, g, h1, h8, h9, h12, h13⟩ hKe hKr
    rw [List.drop_of_length_le (by rw [outL_len]; exact Nat.le_refl _)] at g
    have hle : ¬ ((cntA bs + 1 : Nat) : Int) ≤ (cntA bs : Int) := by omega
    simp -implicitDefEqProofs only [c9_l1, ↓v_lenS, SB, POp.val, AOp.val, WOp.val, Lite.bin, intBin, strBin, eqv, eqMany, eq1, AV.asBool, AV.asInt, AV.asNat, AV.asPtr, AV.asStr, resVals, ResV.val, oneOr, wants, skipped, fillAt, putAt, capOf, optNat, bnd, Nat.reduceBEq, reduceIte, Nat.reduceAdd, Nat.reduceLeDiff, Nat.reduceEqDiff, Nat.reduceSub, Nat.reduceMul, Nat.reduceDiv, SOper.again, same, sameBlk, sameCap, Nat.reduceBneDiff, s_draw2, s_pair, k_pair, asunder, SOper.into, Bool.not_false, Bool.not_true, h8, h13, hle, hKe]
    refine hK _ _ acc low g ?_ ?_ ?_
    all_goals simp -implicitDefEqProofs only [↓v_lenS, SB, POp.val, AOp.val, WOp.val, Lite.bin, intBin, strBin, eqv, eqMany, eq1, AV.asBool, AV.asInt, AV.asNat, AV.asPtr, AV.asStr, resVals, ResV.val, oneOr, wants, skipped, fillAt, putAt, capOf, optNat, bnd, Nat.reduceBEq, reduceIte, Nat.reduceAdd, Nat.reduceLeDiff, Nat.reduceEqDiff, Nat.reduceSub, Nat.reduceMul, Nat.reduceDiv, SOper.again, same, sameBlk, sameCap, Nat.reduceBneDiff, s_draw2, s_pair, k_pair, asunder, SOper.into, Bool.not_false, Bool.not_true, h1, h9, h12]

theorem app_text (l : List Str) (h : l ≠ []) : joinT (fT :: l) = [102, 32] ++ joinT l := by
  cases l with
  | nil => exact absurd rfl h
  | cons s l => simp [joinT, fT]

theorem cells_flat4 {k : Int} {t : Str} {ns : List Str} {l : List X} : [AV.int .i64 k, .str t, vStrs ns, vXs l].all AV.flat = true := by
  simp -implicitDefEqProofs only [↓v_lenS, SB, POp.val, AOp.val, WOp.val, Lite.bin, intBin, strBin, eqv, eqMany, eq1, AV.asBool, AV.asInt, AV.asNat, AV.asPtr, AV.asStr, resVals, ResV.val, oneOr, wants, skipped, fillAt, putAt, capOf, optNat, bnd, Nat.reduceBEq, reduceIte, Nat.reduceAdd, Nat.reduceLeDiff, Nat.reduceEqDiff, Nat.reduceSub, Nat.reduceMul, Nat.reduceDiv, SOper.again, same, sameBlk, sameCap, Nat.reduceBneDiff, s_draw2, s_pair, k_pair, asunder, SOper.into, Bool.not_false, Bool.not_true, XS]

theorem law9 (ks : List Int) (cons : Bool) : Ret P3 9 [vK ks, .bool cons] (.bool true) := by
  refine Ret.of rfl (code9 _ _) rfl rfl (fun H => by simp -implicitDefEqProofs only [↓v_lenS, SB, POp.val, AOp.val, WOp.val, Lite.bin, intBin, strBin, eqv, eqMany, eq1, AV.asBool, AV.asInt, AV.asNat, AV.asPtr, AV.asStr, resVals, ResV.val, oneOr, wants, skipped, fillAt, putAt, capOf, optNat, bnd, Nat.reduceBEq, reduceIte, Nat.reduceAdd, Nat.reduceLeDiff, Nat.reduceEqDiff, Nat.reduceSub, Nat.reduceMul, Nat.reduceDiv, SOper.again, same, sameBlk, sameCap, Nat.reduceBneDiff, s_draw2, s_pair, k_pair, asunder, SOper.into, Bool.not_false, Bool.not_true, shutV_vK]) ?_
  cases cons with
  | true =>
    have hbl := bitsA_len ks 2
    have w2 := Ev.all ((List.range 2).map (fun (i : Nat) => (ks[i]?).getD (i : Int))) (p := fun x n => ∀ H, callN P3 n 18 [.int .i64 x, .int .i64 2] H = some (.ret (.int .i64 (within x 2)), H)) fun x _ => run18 x 2 (by decide)
    have hcnt := cntA_le (bitsA ks 2)
    have nn := norm16 (.mk 10 consT [] ((bitsA ks 2).map partA)) ⟨by simp, by simp; omega, partA_fit _⟩ (by rw [consA_nrm]; show cntA _ < 100; omega)
    rw [consA_nrm] at nn
    have hjl := joinT_le (outN (bitsA ks 2) 0)
    have hjl2 := outN_joinT (bitsA ks 2) 0
    have ht : (X.mk 10 consT [] (outP (bitsA ks 2) 0)).txt = [40, 99, 111, 110, 115, 32] ++ joinT (outN (bitsA ks 2) 0) ++ [41] := by
      rw [X.txt, txtOf, outP_txt]; simp [consT]
    have tt := text26 (.mk 10 consT [] (outP (bitsA ks 2) 0)) ⟨.inr (.inr (.inr (.inr (.inr (.inr (.inr (.inr (.inr ⟨rfl, by decide, by rw [outP_len, hbl]; decide, rfl⟩)))))))), fun i x h => by simp at h, outP_right _ _⟩ ⟨by simp, by rw [outP_len]; omega, outP_fit _ _⟩ (by rw [ht]; simp only [List.length_append, List.length_cons, List.length_nil]; omega)
    have nt := names28 (outN (bitsA ks 2) 0) (by rw [outN_len]; omega) (by omega)
    rw [ht] at tt
    refine (known10.and ((var25 fT).and (w2.and (nn.and (tt.and (nt.and (Ev.ge 20))))))).mono fun n e H => ?_
    obtain ⟨e10, e25, e2, e16, e26, e28, hge⟩ := e
    simp only [varX, fT, X.v_mk, vStrs_nil, vXs_nil] at e25
    simp -implicitDefEqProofs only [c9, ↓v_lenS, SB, POp.val, AOp.val, WOp.val, Lite.bin, intBin, strBin, eqv, eqMany, eq1, AV.asBool, AV.asInt, AV.asNat, AV.asPtr, AV.asStr, resVals, ResV.val, oneOr, wants, skipped, fillAt, putAt, capOf, optNat, bnd, Nat.reduceBEq, reduceIte, Nat.reduceAdd, Nat.reduceLeDiff, Nat.reduceEqDiff, Nat.reduceSub, Nat.reduceMul, Nat.reduceDiv, SOper.again, same, sameBlk, sameCap, Nat.reduceBneDiff, s_draw2, s_pair, k_pair, asunder, SOper.into, Bool.not_false, Bool.not_true, CL, XS, e10, e25]
    refine loop_gen9 (fun e fr H => e = .exit 0 ∧ ArgI ks true 2 10 consT [] 2 fr H) ?_ fun KK fin => ?_
    · rintro e fr H ⟨rfl, v, u, cs, gr, tl, acc, low, h3n, q0, q1, q5, q6, q7, q8, q9, q10, g1, g2⟩
      obtain ⟨H1, hs1, kp1⟩ := gr.shut (d := 63) tl (by simp [hbl]) low
      have acc1 := gr.other low acc kp1
      have low1 := kp1.low low
      simp only [List.cons_append, List.nil_append] at hs1
      have fv := gr.flat
      simp only [X.v_mk, vStrs_nil] at e16 e26
      unfold X.v at e16
      have hc4 : (bindAll (outL (bitsA ks 2) 0) (X.mk 10 consT [] (outP (bitsA ks 2) 0))).cells.length = 4 := X.cells_len _
      have hcf : (bindAll (outL (bitsA ks 2) 0) (X.mk 10 consT [] (outP (bitsA ks 2) 0))).cells.all AV.flat = true := by
        obtain ⟨k', t', n', l'⟩ := bindAll (outL (bitsA ks 2) 0) (X.mk 10 consT [] (outP (bitsA ks 2) 0))
        rw [X.cells_mk]; exact cells_flat4
      generalize hcc : (bindAll (outL (bitsA ks 2) 0) (X.mk 10 consT [] (outP (bitsA ks 2) 0))).cells = cc at *
      simp -implicitDefEqProofs only [↓v_lenS, SB, POp.val, AOp.val, WOp.val, Lite.bin, intBin, strBin, eqv, eqMany, eq1, AV.asBool, AV.asInt, AV.asNat, AV.asPtr, AV.asStr, resVals, ResV.val, oneOr, wants, skipped, fillAt, putAt, capOf, optNat, bnd, Nat.reduceBEq, reduceIte, Nat.reduceAdd, Nat.reduceLeDiff, Nat.reduceEqDiff, Nat.reduceSub, Nat.reduceMul, Nat.reduceDiv, SOper.again, same, sameBlk, sameCap, Nat.reduceBneDiff, s_draw2, s_pair, k_pair, asunder, SOper.into, Bool.not_false, Bool.not_true, CL, XS, k_blockE, q1, q5, q8, q9, g1, fv, hs1, e16, hc4, hcf]
      have gz : (H1.push (Obj.row [AV.int IntKind.i64 0, AV.str [], AV.nils, AV.nils] 0 false (some 28))).t.get H1.n = some (Obj.row [AV.int IntKind.i64 0, AV.str [], AV.nils, AV.nils] 0 false (some 28)) := by rw [h_get, if_pos rfl]
      have acc2 := (acc1.push low1).put (by decide) gz (ob := Obj.row cc 0 false (some 28))
      have acc3 : Acc 3 ((H1.push (Obj.row [AV.int IntKind.i64 0, AV.str [], AV.nils, AV.nils] 0 false (some 28))).put H1.n (Obj.row cc 0 false (some 28))) 9 1 (bitsA ks 2).length ((outN (bitsA ks 2) 0).flatMap str1) u := by rw [hbl]; exact acc2
      refine args_l1 (bs := bitsA ks 2) (core := X.mk 10 consT [] (outP (bitsA ks 2) 0)) (kb := H1.n) (cons := true) (by omega) (by omega) acc3 (low1.push.put (by simp [h_n])) (by rw [h_gput, if_pos rfl, hcc]) ?_ ?_ ?_ ?_ ?_ ?_
      any_goals simp -implicitDefEqProofs only [↓v_lenS, SB, POp.val, AOp.val, WOp.val, Lite.bin, intBin, strBin, eqv, eqMany, eq1, AV.asBool, AV.asInt, AV.asNat, AV.asPtr, AV.asStr, resVals, ResV.val, oneOr, wants, skipped, fillAt, putAt, capOf, optNat, bnd, Nat.reduceBEq, reduceIte, Nat.reduceAdd, Nat.reduceLeDiff, Nat.reduceEqDiff, Nat.reduceSub, Nat.reduceMul, Nat.reduceDiv, SOper.again, same, sameBlk, sameCap, Nat.reduceBneDiff, s_draw2, s_pair, k_pair, asunder, SOper.into, Bool.not_false, Bool.not_true, q1, q8, q9]
      intro fr H acc low g h1 h9 h12
      obtain ⟨H5, hs5, kp5⟩ := acc.shutV (by decide) (Still.flat (fun s => Still.str s) _)
      have hs6 : shutV u H = some (vStrs (outN (bitsA ks 2) 0), H5) := by
        rw [hs5]
        show some (AV.L true 1 _ (bitsA ks 2).length, H5) = some (AV.L true 1 _ (outN (bitsA ks 2) 0).length, H5)
        rw [outN_len]
      rw [X.cells_mk, vStrs_nil] at g
      have hl1 : (joinT (outN (bitsA ks 2) 0)).length ≤ 100 := by omega
      generalize joinT (outN (bitsA ks 2) 0) = J at *
      generalize outN (bitsA ks 2) 0 = ON at *
      have b1 : 6 + J.length ≤ 4611686018427387904 := by omega
      have b2 : J.length + 1 + 1 + 1 + 1 + 1 + 1 + 1 ≤ 4611686018427387904 := by omega
      have es : ∀ s : Str, (s == s) = true := fun s => by simp
      simp -implicitDefEqProofs only [↓v_lenS, SB, POp.val, AOp.val, WOp.val, Lite.bin, intBin, strBin, eqv, eqMany, eq1, AV.asBool, AV.asInt, AV.asNat, AV.asPtr, AV.asStr, resVals, ResV.val, oneOr, wants, skipped, fillAt, putAt, capOf, optNat, bnd, Nat.reduceBEq, reduceIte, Nat.reduceAdd, Nat.reduceLeDiff, Nat.reduceEqDiff, Nat.reduceSub, Nat.reduceMul, Nat.reduceDiv, SOper.again, same, sameBlk, sameCap, Nat.reduceBneDiff, s_draw2, s_pair, k_pair, asunder, SOper.into, Bool.not_false, Bool.not_true, CL, XS, k_blockE, h1, h9, h12, g, hs6, e26, e28, b1, b2, es, Ends, gives_ret]
      exact ⟨_, rfl⟩
    · refine args_l0 (N := 2) (k := 10) (t := consT) (pre := []) (ks := ks) (cons := true) (by omega) (by simp) (by omega) e2 ⟨.nils, .nils, [], .inl Acc.nil, Tells.nil, Acc.nil, ?_, ?_, ?_, ?_, ?_, ?_, ?_, ?_, ?_, ?_, ?_, ?_⟩ fun fr H h => fin _ _ _ ⟨rfl, h⟩
      · exact (((((HLow.bare.push).push.put (by simp [h_n, h_nbare])).put (by simp [h_n, h_nput, h_nbare])).push).put (by simp [h_n, h_nput, h_nbare]))
      · simp [h_n, h_nput, h_nbare]
      any_goals simp -implicitDefEqProofs only [↓v_lenS, SB, POp.val, AOp.val, WOp.val, Lite.bin, intBin, strBin, eqv, eqMany, eq1, AV.asBool, AV.asInt, AV.asNat, AV.asPtr, AV.asStr, resVals, ResV.val, oneOr, wants, skipped, fillAt, putAt, capOf, optNat, bnd, Nat.reduceBEq, reduceIte, Nat.reduceAdd, Nat.reduceLeDiff, Nat.reduceEqDiff, Nat.reduceSub, Nat.reduceMul, Nat.reduceDiv, SOper.again, same, sameBlk, sameCap, Nat.reduceBneDiff, s_draw2, s_pair, k_pair, asunder, SOper.into, Bool.not_false, Bool.not_true]
      all_goals rfl
  | false =>
    have hbl := bitsA_len ks 6
    have w2 := Ev.all ((List.range 6).map (fun (i : Nat) => (ks[i]?).getD (i : Int))) (p := fun x n => ∀ H, callN P3 n 18 [.int .i64 x, .int .i64 2] H = some (.ret (.int .i64 (within x 2)), H)) fun x _ => run18 x 2 (by decide)
    have hcnt := cntA_le (bitsA ks 6)
    have nn := norm16 (.mk 7 [] [] (varX fT :: (bitsA ks 6).map partA)) ⟨by simp, by simp; omega, ⟨by simp, by simp, trivial⟩, partA_fit _⟩ (by rw [app_nrm]; show cntA _ < 100; omega)
    rw [app_nrm] at nn
    have hjl := joinT_le (outN (bitsA ks 6) 0)
    have hjl2 := outN_joinT (bitsA ks 6) 0
    have ht : (X.mk 7 [] [] (varX fT :: outP (bitsA ks 6) 0)).txt = [40, 102, 32] ++ joinT (outN (bitsA ks 6) 0) ++ [41] := by
      rw [X.txt, txtOf, X.txts, outP_txt, var_txt, app_text _ (fun h => by have := outN_len (bitsA ks 6) 0; rw [h, hbl] at this; simp at this)]; simp
    have tt := text26 (.mk 7 [] [] (varX fT :: outP (bitsA ks 6) 0)) ⟨.inr (.inr (.inr (.inr (.inr (.inr (.inl ⟨rfl, rfl, rfl, by rw [List.length_cons, outP_len, hbl]; decide⟩)))))), fun i x h => by simp at h, ⟨.inr (.inr (.inr (.inr (.inl ⟨rfl, by decide, rfl, rfl⟩)))), fun i x h => by simp at h, trivial⟩, outP_right _ _⟩ ⟨by simp, by rw [List.length_cons, outP_len]; omega, ⟨by simp, by simp, trivial⟩, outP_fit _ _⟩ (by rw [ht]; simp only [List.length_append, List.length_cons, List.length_nil]; omega)
    have nt := names28 (outN (bitsA ks 6) 0) (by rw [outN_len]; omega) (by omega)
    rw [ht] at tt
    refine (known10.and ((var25 fT).and (w2.and (nn.and (tt.and (nt.and (Ev.ge 20))))))).mono fun n e H => ?_
    obtain ⟨e10, e25, e2, e16, e26, e28, hge⟩ := e
    simp only [varX, fT, X.v_mk, vStrs_nil, vXs_nil] at e25
    simp -implicitDefEqProofs only [c9, ↓v_lenS, SB, POp.val, AOp.val, WOp.val, Lite.bin, intBin, strBin, eqv, eqMany, eq1, AV.asBool, AV.asInt, AV.asNat, AV.asPtr, AV.asStr, resVals, ResV.val, oneOr, wants, skipped, fillAt, putAt, capOf, optNat, bnd, Nat.reduceBEq, reduceIte, Nat.reduceAdd, Nat.reduceLeDiff, Nat.reduceEqDiff, Nat.reduceSub, Nat.reduceMul, Nat.reduceDiv, SOper.again, same, sameBlk, sameCap, Nat.reduceBneDiff, s_draw2, s_pair, k_pair, asunder, SOper.into, Bool.not_false, Bool.not_true, CL, XS, e10, e25]
    refine loop_gen9 (fun e fr H => e = .exit 0 ∧ ArgI ks false 6 7 [] [varX fT] 6 fr H) ?_ fun KK fin => ?_
    · rintro e fr H ⟨rfl, v, u, cs, gr, tl, acc, low, h3n, q0, q1, q5, q6, q7, q8, q9, q10, g1, g2⟩
      obtain ⟨H1, hs1, kp1⟩ := gr.shut (d := 63) tl (by simp [hbl]) low
      have acc1 := gr.other low acc kp1
      have low1 := kp1.low low
      simp only [List.cons_append, List.nil_append] at hs1
      have fv := gr.flat
      simp only [X.v_mk, vStrs_nil] at e16 e26
      unfold X.v at e16
      have hc4 : (bindAll (outL (bitsA ks 6) 0) (X.mk 7 [] [] (varX fT :: outP (bitsA ks 6) 0))).cells.length = 4 := X.cells_len _
      have hcf : (bindAll (outL (bitsA ks 6) 0) (X.mk 7 [] [] (varX fT :: outP (bitsA ks 6) 0))).cells.all AV.flat = true := by
        obtain ⟨k', t', n', l'⟩ := bindAll (outL (bitsA ks 6) 0) (X.mk 7 [] [] (varX fT :: outP (bitsA ks 6) 0))
        rw [X.cells_mk]; exact cells_flat4
      generalize hcc : (bindAll (outL (bitsA ks 6) 0) (X.mk 7 [] [] (varX fT :: outP (bitsA ks 6) 0))).cells = cc at *
      simp -implicitDefEqProofs only [↓v_lenS, SB, POp.val, AOp.val, WOp.val, Lite.bin, intBin, strBin, eqv, eqMany, eq1, AV.asBool, AV.asInt, AV.asNat, AV.asPtr, AV.asStr, resVals, ResV.val, oneOr, wants, skipped, fillAt, putAt, capOf, optNat, bnd, Nat.reduceBEq, reduceIte, Nat.reduceAdd, Nat.reduceLeDiff, Nat.reduceEqDiff, Nat.reduceSub, Nat.reduceMul, Nat.reduceDiv, SOper.again, same, sameBlk, sameCap, Nat.reduceBneDiff, s_draw2, s_pair, k_pair, asunder, SOper.into, Bool.not_false, Bool.not_true, CL, XS, k_blockE, q1, q5, q8, q9, g1, fv, hs1, e16, hc4, hcf]
      have gz : (H1.push (Obj.row [AV.int IntKind.i64 0, AV.str [], AV.nils, AV.nils] 0 false (some 28))).t.get H1.n = some (Obj.row [AV.int IntKind.i64 0, AV.str [], AV.nils, AV.nils] 0 false (some 28)) := by rw [h_get, if_pos rfl]
      have acc2 := (acc1.push low1).put (by decide) gz (ob := Obj.row cc 0 false (some 28))
      have acc3 : Acc 3 ((H1.push (Obj.row [AV.int IntKind.i64 0, AV.str [], AV.nils, AV.nils] 0 false (some 28))).put H1.n (Obj.row cc 0 false (some 28))) 9 1 (bitsA ks 6).length ((outN (bitsA ks 6) 0).flatMap str1) u := by rw [hbl]; exact acc2
      refine args_l1 (bs := bitsA ks 6) (core := X.mk 7 [] [] (varX fT :: outP (bitsA ks 6) 0)) (kb := H1.n) (cons := false) (by omega) (by omega) acc3 (low1.push.put (by simp [h_n])) (by rw [h_gput, if_pos rfl, hcc]) ?_ ?_ ?_ ?_ ?_ ?_
      any_goals simp -implicitDefEqProofs only [↓v_lenS, SB, POp.val, AOp.val, WOp.val, Lite.bin, intBin, strBin, eqv, eqMany, eq1, AV.asBool, AV.asInt, AV.asNat, AV.asPtr, AV.asStr, resVals, ResV.val, oneOr, wants, skipped, fillAt, putAt, capOf, optNat, bnd, Nat.reduceBEq, reduceIte, Nat.reduceAdd, Nat.reduceLeDiff, Nat.reduceEqDiff, Nat.reduceSub, Nat.reduceMul, Nat.reduceDiv, SOper.again, same, sameBlk, sameCap, Nat.reduceBneDiff, s_draw2, s_pair, k_pair, asunder, SOper.into, Bool.not_false, Bool.not_true, q1, q8, q9]
      intro fr H acc low g h1 h9 h12
      obtain ⟨H5, hs5, kp5⟩ := acc.shutV (by decide) (Still.flat (fun s => Still.str s) _)
      have hs6 : shutV u H = some (vStrs (outN (bitsA ks 6) 0), H5) := by
        rw [hs5]
        show some (AV.L true 1 _ (bitsA ks 6).length, H5) = some (AV.L true 1 _ (outN (bitsA ks 6) 0).length, H5)
        rw [outN_len]
      rw [X.cells_mk, vStrs_nil] at g
      have hl1 : (joinT (outN (bitsA ks 6) 0)).length ≤ 100 := by omega
      generalize joinT (outN (bitsA ks 6) 0) = J at *
      generalize outN (bitsA ks 6) 0 = ON at *
      have b1 : 3 + J.length ≤ 4611686018427387904 := by omega
      have b2 : J.length + 1 + 1 + 1 + 1 ≤ 4611686018427387904 := by omega
      have es : ∀ s : Str, (s == s) = true := fun s => by simp
      simp -implicitDefEqProofs only [↓v_lenS, SB, POp.val, AOp.val, WOp.val, Lite.bin, intBin, strBin, eqv, eqMany, eq1, AV.asBool, AV.asInt, AV.asNat, AV.asPtr, AV.asStr, resVals, ResV.val, oneOr, wants, skipped, fillAt, putAt, capOf, optNat, bnd, Nat.reduceBEq, reduceIte, Nat.reduceAdd, Nat.reduceLeDiff, Nat.reduceEqDiff, Nat.reduceSub, Nat.reduceMul, Nat.reduceDiv, SOper.again, same, sameBlk, sameCap, Nat.reduceBneDiff, s_draw2, s_pair, k_pair, asunder, SOper.into, Bool.not_false, Bool.not_true, CL, XS, k_blockE, h1, h9, h12, g, hs6, e26, e28, b1, b2, es, Ends, gives_ret]
      exact ⟨_, rfl⟩
    · refine args_l0 (N := 6) (k := 7) (t := []) (pre := [varX fT]) (ks := ks) (cons := false) (by omega) (by simp) (by omega) e2 ⟨.lst 4 1 true [.int .i64 5, .str [102], .lst 0 0 true [], .lst 0 0 true []], .nils, [.int .i64 5, .str [102], .lst 0 0 true [], .lst 0 0 true []], .inr ⟨rfl, by decide, rfl, rfl, fun d H => by simp only [mapHM_cons, mapHM_nil, shutC_int, shutC_str, shutC_lst0, Option.bind_some, Option.map_some]⟩, fun d H => by simp only [mapHM_cons, mapHM_nil, shutC_int, shutC_str, shutC_lst0, Option.bind_some, Option.map_some]; rfl, Acc.nil, ?_, ?_, ?_, ?_, ?_, ?_, ?_, ?_, ?_, ?_, ?_, ?_⟩ fun fr H h => fin _ _ _ ⟨rfl, h⟩
      · exact ((((HLow.bare.push).push.put (by simp [h_n, h_nbare])).push).put (by simp [h_n, h_nput, h_nbare]))
      · simp [h_n, h_nput, h_nbare]
      any_goals simp -implicitDefEqProofs only [↓v_lenS, SB, POp.val, AOp.val, WOp.val, Lite.bin, intBin, strBin, eqv, eqMany, eq1, AV.asBool, AV.asInt, AV.asNat, AV.asPtr, AV.asStr, resVals, ResV.val, oneOr, wants, skipped, fillAt, putAt, capOf, optNat, bnd, Nat.reduceBEq, reduceIte, Nat.reduceAdd, Nat.reduceLeDiff, Nat.reduceEqDiff, Nat.reduceSub, Nat.reduceMul, Nat.reduceDiv, SOper.again, same, sameBlk, sameCap, Nat.reduceBneDiff, s_draw2, s_pair, k_pair, asunder, SOper.into, Bool.not_false, Bool.not_true]
      all_goals rfl


end Go.Lite

/- The row of the law NormArgs, and its card: what its call does, from the interpreter's run; what it lists, tied to the program's text. -/
namespace Go.Proofs.YtlncgbcclmhicaaDoor.normArgs
open Go.ChangeShapes Go.WideShapes Go.ChangeAt Go.RowKit Go.Lite
open Go.ChangeMaps (open_string shut_string)
set_option linter.unusedVariables false
set_option maxRecDepth 100000
theorem own : ownKnob Tryd.prog.godebug = none := by kernel_rfl
theorem laidOut : laidOutB Tryd.prog = true := by kernel_rfl
theorem laid_met (os : Os) : laidMet Tryd.prog Rows.normArgsRow.laid ((laidWorld Tryd.prog os [(1, Rows.laid_math_bits_deBruijn32tab), (2, Rows.laid_math_bits_deBruijn64tab), (0, Rows.laid_internal_strconv_uint64pow10)]).forCall (fun _ _ => 0) ⟨#[], #[.slice none 0 0, .bool false], []⟩).memory :=
  laidMet_of_run' 8 (by kernel_rfl) (by kernel_rfl)
theorem lifted (os : Os) (started : os.Started) (H : Type) (enc : TypeId × Value → H) :
    ReturnsInHanded {} Tryd.checked os 9 .any (fun w args => (Rows.normArgsSpec.pre enc Tryd.prog Tryd.f9 Rows.normArgsRow.domain false w args ∧ laidMet Tryd.prog Rows.normArgsRow.laid w) ∧ sizedMet enc Tryd.prog Tryd.f9 (OpenSpec.ofChange Rows.normArgsSpec) false w args) (Rows.normArgsSpec.post enc Tryd.prog Tryd.f9 false true false false) := by
  refine returns_laid (C := Tryd.checked) (X := fun w _ => laidMet Tryd.prog Rows.normArgsRow.laid w) own started (by kernel_rfl) Tryd.func9
    (ChangeSpec.witness_at (enc := enc) (C := Tryd.checked) (os := os) (X := fun w _ => laidMet Tryd.prog Rows.normArgsRow.laid w) false (laidWorld Tryd.prog os [(1, Rows.laid_math_bits_deBruijn32tab), (2, Rows.laid_math_bits_deBruijn64tab), (0, Rows.laid_internal_strconv_uint64pow10)]) #[.slice none 0 0, .bool false] 8 rfl (by kernel_rfl) (by kernel_rfl) (by kernel_rfl) (by kernel_rfl) (by kernel_rfl) (laid_met os)) ?_
  intro W base args ds gs before hval0 hW hcnd hsz0 hsh _
  have hsz : (DataW.weightsEach Tryd.prog (Tryd.f9.params.toList ++ Rows.normArgsSpec.plain.varTypes Tryd.prog) (ds ++ gs)).all (· ≤ reachBytes) = true := hsz0
  have hval : ∀ (j : Nat) t v, Tryd.f9.params[j]? = some t → args[j]? = some v → Value.okWide Tryd.prog W .any base t v := hval0
  have hW' := hW
  obtain ⟨p, q, hA0, hV, rfl, hfz, hnd⟩ := hW
  have hA : DataW.TrodAll enc Tryd.prog W 0 (fun _ => true) true Tryd.f9.params.toList args.toList ds p := hA0
  rw [Tryd.params9] at hA hval hsz
  obtain ⟨v0, vs0, d0, ds0, p0, q0, hargs, rfl, rfl, h0, r0⟩ := trodAll_cons hA
  obtain ⟨v1, vs1, d1, ds1, p1, q1, rfl, rfl, rfl, h1, r1⟩ := trodAll_cons r0
  obtain ⟨rfl, rfl, rfl⟩ := trodAll_nil r1
  obtain rfl : args = #[v0, v1] := by cases args; simp_all
  obtain ⟨rfl, rfl⟩ := trodVars_none hV
  have k0 := h0
  have lt0 : ∀ x ∈ p0, x.block < W.heap.size := by obtain ⟨m, hm⟩ := k0; exact DataW.trod_lt m _ _ _ hm
  have o0 := (hval 0 43 v0 rfl rfl)
  obtain ⟨z0, n0, c0, rfl⟩ := okWide_slice Tryd.underlying43 o0
  obtain ⟨g0, y0⟩ := h0
  obtain ⟨a0, w0, e0⟩ := open_ints Tryd.underlying43 Tryd.underlying3 (by kernel_rfl) (u := .slice z0 n0 c0) (by simpa [Value.cells] using y0)
  obtain ⟨a1, rfl, rfl, rfl⟩ := open_bool Tryd.underlying4 (hval 1 4 v1 rfl rfl) h1
  refine (calls_of_ret hsh (law9 a0 a1) (by simp only [VRels]; exact ⟨_, _, rfl, e0, _, _, rfl, rfl, rfl⟩)).mono fun e W' ⟨he, bel⟩ => ?_
  subst he
  exact ⟨_, rfl, _, _, _, [], _, [], hW', trodAll_mk1 (shut_bool Tryd.underlying4 _), (trodAll_cons_mk (Below.trod laidOut (by kernel_rfl) (of_decide_eq_true (by kernel_rfl)) k0 bel lt0) (trodAll_cons_mk (shut_bool Tryd.underlying4 _) trodAll_mk0)), rfl, bel.frame _, fun h => by cases h⟩
theorem over : Rows.normArgsRow.holds Tryd.pinned (OpenSpec.ofChange Rows.normArgsSpec) :=
  OpenClaim.holds_of_wide 9 Tryd.f9 rfl rfl rfl rfl rfl rfl rfl ⟨rfl, rfl, rfl, rfl, rfl⟩ rfl rfl rfl rfl rfl (by kernel_rfl) Tryd.func9 (by kernel_rfl)
    (of_decide_eq_true (by kernel_rfl)) (by unfold Func.isWrapper; first | (rw [if_pos (by decide +kernel)]; kernel_rfl) | (rw [if_neg (by decide +kernel)]; exact ⟨rfl, rfl⟩))
    (fun os started H enc _ => lifted os started H enc)
theorem card : Rows.NormArgsCardSaid :=
  Claim7.holds_tied_plain_at .later [] [.data, .data, .data] true (true, "05371768a2b689a778b004fff7a7d4b6c1552bdb147ddd328a44f6f4ba8b0971") false over (fun _ h => by cases h) (by kernel_rfl) (fun _ h => by cases h) normArgs_row_tie rfl ⟨rfl, rfl⟩ (by kernel_rfl) (by first | rfl | decide)
    (fun f fn h1 h2 => by
      obtain rfl : f = 9 := Option.some.inj (h1.symm.trans (by kernel_rfl))
      obtain rfl : fn = Tryd.f9 := Option.some.inj (h2.symm.trans Tryd.func9)
      refine ⟨by kernel_rfl, fun j t hj => ?_⟩
      rw [Tryd.params9] at hj
      match j, hj with
      | 0, hj =>
        obtain rfl : t = 43 := by simpa using hj.symm
        exact (by kernel_rfl : Tryd.pinned.checked.prog.wantsStandIn 43 = false)
      | 1, hj =>
        obtain rfl : t = 4 := by simpa using hj.symm
        exact (by kernel_rfl : Tryd.pinned.checked.prog.wantsStandIn 4 = false)
      | j + 2, hj => simp at hj)
    (by kernel_rfl)
#print axioms card
end Go.Proofs.YtlncgbcclmhicaaDoor.normArgs
namespace Go.Proofs.YtlncgbcclmhicaaDoor
/-- The card, under a short name, for the claim. -/
theorem normArgs_holds : Rows.NormArgsCardSaid := normArgs.card
end Go.Proofs.YtlncgbcclmhicaaDoor
