/-
  DatumSame by the interpreter.
-/
import Derived.Test.YtibjdfajafilhaaECopy
import Derived.Test.YtibjdfajafilhaaEFacts
namespace Go.Lite
open Go Go.Proofs
set_option maxRecDepth 100000
set_option linter.unusedSimpArgs false
set_option linter.unusedVariables false

def moreD (ms : List Int) : D := .mk 3 [109, 111, 114, 101] ms [] 0

theorem more_cells (la : List D) (ms : List Int) : (la ++ [moreD ms]).flatMap D.cells = la.flatMap D.cells ++ [.int .i64 3, .str [109, 111, 114, 101], vInts ms, .lst 0 0 true [], .int .i64 0] := by
  rw [List.flatMap_append, List.flatMap_cons, List.flatMap_nil, List.append_nil, moreD, D.cells_mk]; rfl

theorem more_shut {H : Heap} {la : List D} {w : Int} {mv lv : AV} (h1 : Lie H 1 0 [] mv) (h2 : Lie H 5 (la.length + 1) (la.flatMap D.cells ++ [.int .i64 3, .str [109, 111, 114, 101], .lst 1 1 true [.int .i64 w], .lst 0 0 true [], .int .i64 0]) lv) :
    ∃ H1 H2, shutC 64 mv H = some (.lst 0 0 true [], H1) ∧ shutC 64 lv H1 = some (vData (la ++ [moreD [w]]), H2) ∧ Froz H H2 := by
  obtain ⟨H1, e1, f1⟩ := h1.shut (d := 63) (by decide) Still.nil
  have hm : ∀ (xs ys zs : List AV) (d : Nat), Still xs → (∀ H, mapHM (shutC d) ys H = some (zs, H)) → ∀ H, mapHM (shutC d) (xs ++ ys) H = some (xs ++ zs, H) := by
    intro xs
    induction xs with
    | nil => intro ys zs d _ h H; exact h H
    | cons x xs ih =>
      intro ys zs d hst h H
      rw [List.cons_append, mapHM_cons, hst x (by simp) d H, Option.bind_some, ih ys zs d (fun c hc => hst c (by simp [hc])) h]
      rfl
  obtain ⟨H2, e2, f2⟩ := (h2.froz f1).shutT (d := 63) (cells' := (la ++ [moreD [w]]).flatMap D.cells) (by decide) (fun h => by omega) fun H => by
    rw [more_cells]
    exact hm _ _ _ _ (Still.flat D.still la) (fun H => rfl) H
  refine ⟨H1, H2, e1, ?_, f1.trans f2⟩
  rw [e2]
  show some (AV.L true 5 _ (la.length + 1), H2) = some (AV.L true 5 _ (la ++ [moreD [w]]).length, H2)
  rw [List.length_append]; rfl

/-- what stands in the end -/
structure Here (G : Heap) (la lb : List D) (n0 w : Int) (p1b p2b p3b p4b p5b : Nat) (mv lv me le : AV) : Prop where
  a : G.t.get p1b = some (.row [.int .i64 4, .str [], .lst 0 0 true [], vData la, .int .i64 0] 0 false (some 30))
  b : G.t.get p2b = some (.row [.int .i64 4, .str [], .lst 0 0 true [], vData lb, .int .i64 500] 0 false (some 30))
  c : G.t.get p3b = some (.row [.int .i64 4, .str [], .lst 0 0 true [], vData la, .int .i64 n0] 0 false (some 30))
  d : G.t.get p4b = some (.row [.int .i64 4, .str [], mv, lv, .int .i64 n0] 0 false (some 30))
  e : G.t.get p5b = some (.row [.int .i64 4, .str [], me, le, .int .i64 n0] 0 false (some 30))
  m : Lie G 1 0 [] mv
  l : Lie G 5 (la ++ [moreD []]).length ((la ++ [moreD []]).flatMap D.cells) lv
  me : Lie G 1 0 [] me
  le : Lie G 5 (la.length + 1) (la.flatMap D.cells ++ [.int .i64 3, .str [109, 111, 114, 101], .lst 1 1 true [.int .i64 w], .lst 0 0 true [], .int .i64 0]) le

theorem Here.froz {G G' : Heap} {la lb : List D} {n0 w : Int} {p1b p2b p3b p4b p5b : Nat} {mv lv me le : AV} (h : Here G la lb n0 w p1b p2b p3b p4b p5b mv lv me le) (f : Froz G G') : Here G' la lb n0 w p1b p2b p3b p4b p5b mv lv me le :=
  ⟨f.box _ _ _ _ h.a, f.box _ _ _ _ h.b, f.box _ _ _ _ h.c, f.box _ _ _ _ h.d, f.box _ _ _ _ h.e, h.m.froz f, h.l.froz f, h.me.froz f, h.le.froz f⟩

theorem same_pos (k : Int) (t : List Nat) (ms : List Int) (l : List D) (a b : Int) : (D.mk k t ms l a).same (.mk k t ms l b) = true := by
  rw [D.same, D.sames_eq, zipAll_refl l fun d _ => D.same_refl d, zipAll_refl ms fun x _ => by simp]
  simp

theorem same_more (la : List D) (n : Int) : (D.mk 4 [] [] la n).same (.mk 4 [] [] (la ++ [moreD []]) n) = false := by
  rw [D.same, D.sames_eq, zipAll_len la (la ++ [moreD []]) (by simp)]
  simp

theorem same_marks (la : List D) (n w : Int) : (D.mk 4 [] [] (la ++ [moreD []]) n).same (.mk 4 [] [] (la ++ [moreD [w]]) n) = false := by
  rw [D.same, D.sames_eq, all_not (i := la.length) (x := moreD []) (y := moreD [w]) (by simp) (by simp) (by simp) (by simp [moreD, D.same, zipAll])]
  simp

theorem plain_more (la : List D) (n w : Int) : (D.mk 4 [] [] (la ++ [moreD [w]]) n).plain = (D.mk 4 [] [] (la ++ [moreD []]) n).plain := by
  simp only [D.plain, plains_map, List.map_append, List.map_cons, List.map_nil, moreD]

set_option maxHeartbeats 4000000 in
/-- DatumSame -/
theorem law7 (l : List Raw) (ns : List Int) (which n0 : Int) (hl : l.length ≤ 9223372036854775807) (hf : Raw.fits l) : Ret P2 7 [vRaws l, vIntsF false ns, .int .i64 which, .int .i64 n0] (.bool true) := by
  by_cases hfew : sizeR 21 l ≤ 60
  · have hc : Raw.cnts l ≤ 60 := by rw [← few_cnt 21 l hfew]; exact hfew
    obtain ⟨q1, q2, q3, q4⟩ := list_facts hc
    obtain ⟨m1, m2, m3, m4⟩ := marked_facts ns (.mk 4 [] [] (Raw.makes l) 0) 0
    obtain ⟨b1, b2, b3, b4⟩ := marked_facts [] (.mk 4 [] [] (Raw.makes l) 0) 500
    have mk1 := marked16 false ns (.mk 4 [] [] (Raw.makes l) 0) 0 (by omega)
    have mk2 := marked16 true [] (.mk 4 [] [] (Raw.makes l) 0) 500 (by omega)
    have ha := all13 l (by omega)
    have hps := plain_same ns (.mk 4 [] [] (Raw.makes l) 0) 0 500
    replace m4 := m4 q4
    replace b4 := b4 q4
    have hml : (D.markeds ns (Raw.makes l) 1).1.length ≤ 60 := by rw [markeds_len, makes_len]; have := len_le_cnts l; omega
    have hA : ((D.mk 4 [] [] (Raw.makes l) 0).marked ns 0).1 = .mk 4 [] [] (D.markeds ns (Raw.makes l) 1).1 0 := by
      rw [D.marked]; simp
    have hB : ((D.mk 4 [] [] (Raw.makes l) 0).marked [] 500).1 = .mk 4 [] [] (D.markeds [] (Raw.makes l) 501).1 500 := by
      rw [D.marked]; simp
    rw [hA] at mk1 m1 m2 m4 hps
    rw [hB] at mk2 b1 b2 b4 hps
    generalize ((D.mk 4 [] [] (Raw.makes l) 0).marked ns 0).2 = at1 at *
    generalize ((D.mk 4 [] [] (Raw.makes l) 0).marked [] 500).2 = at2 at *
    generalize (D.markeds ns (Raw.makes l) 1).1 = la at *
    generalize (D.markeds [] (Raw.makes l) 501).1 = lb at *
    generalize Raw.makes l = ds at *
    clear hA hB m3 b3
    have m4C : (D.mk 4 [] [] la n0).small := m4
    have mored : ∀ ms : List Int, ms.length ≤ 1 → (moreD ms).small := fun ms h => by
      rw [moreD, D.small]; exact ⟨by omega, by simp, trivial⟩
    have m4D : ∀ ms : List Int, ms.length ≤ 1 → (D.mk 4 [] [] (la ++ [moreD ms]) n0).small := fun ms h => by
      rw [D.small, D.smalls_iff] at m4 ⊢
      refine ⟨by simp, by simp; omega, fun d hd => ?_⟩
      rcases List.mem_append.1 hd with h1 | h1
      · exact m4.2.2 d h1
      · rw [List.mem_singleton.1 h1]; exact mored ms h
    have w9 := run20 which 9 (by decide)
    generalize within which 9 = w at *
    have k1 := copy17 (.mk 4 [] [] la n0) m4C
    have k2 := copy17 (.mk 4 [] [] (la ++ [moreD []]) n0) (m4D [] (by simp))
    have s1 := same21 (.mk 4 [] [] la 0) (D.small.fit _ m4) (.mk 4 [] [] la n0)
    rw [same_pos] at s1
    obtain ⟨_, _, _, _, pA, _⟩ := plain_facts (.mk 4 [] [] la 0)
    obtain ⟨_, _, _, _, pD, _⟩ := plain_facts (.mk 4 [] [] (la ++ [moreD []]) n0)
    have s2 := same21 _ (D.small.fit _ (pA m4)) (.mk 4 [] [] lb 500)
    rw [hps] at s2
    have s3 := same21 (.mk 4 [] [] la n0) (D.small.fit _ m4C) (.mk 4 [] [] (la ++ [moreD []]) n0)
    rw [same_more] at s3
    have s4 := same21 (.mk 4 [] [] (la ++ [moreD []]) n0) (D.small.fit _ (m4D [] (by simp))) (.mk 4 [] [] (la ++ [moreD [w]]) n0)
    rw [same_marks] at s4
    have p1 := plain18 (.mk 4 [] [] la 0) m4
    have p2 := plain18 (.mk 4 [] [] (la ++ [moreD []]) n0) (m4D [] (by simp))
    have p3 := plain18 (.mk 4 [] [] (la ++ [moreD [w]]) n0) (m4D [w] (by simp))
    rw [plain_more] at p3
    have s5 := same21 _ (D.small.fit _ (pD (m4D [] (by simp)))) (D.mk 4 [] [] (la ++ [moreD []]) n0).plain
    rw [D.same_refl] at s5
    have s6 := same21 (.mk 4 [] [] la 0) (D.small.fit _ m4) (.mk 4 [] [] lb 500)
    have s7 := same21 (.mk 4 [] [] lb 500) (D.small.fit _ b4) (.mk 4 [] [] la 0)
    rw [same_comm] at s7
    generalize (D.mk 4 [] [] la 0).same (.mk 4 [] [] lb 500) = sab at *
    generalize (D.mk 4 [] [] la 0).plain = PA at *
    generalize (D.mk 4 [] [] (la ++ [moreD []]) n0).plain = PD at *
    refine Ret.of rfl (code7 _ _) rfl rfl (fun H => by simp -implicitDefEqProofs only [↓v_lenS, SB, POp.val, AOp.val, WOp.val, Lite.bin, intBin, strBin, eqv, eqMany, eq1, AV.asBool, AV.asInt, AV.asNat, AV.asPtr, AV.asStr, resVals, ResV.val, oneOr, wants, skipped, fillAt, putAt, capOf, optNat, bnd, Nat.reduceBEq, reduceIte, Nat.reduceAdd, Nat.reduceLeDiff, Nat.reduceEqDiff, Nat.reduceSub, Nat.reduceMul, Nat.reduceDiv, SOper.again, same, sameBlk, sameCap, Nat.reduceBneDiff, s_draw2, s_pair, k_pair, asunder, SOper.into, Bool.not_false, Bool.not_true, shutV_vRaws, shutV_vIntsF]) ?_
    refine (known11.and ((few12 l hl hf).and (ha.and (mk1.and (mk2.and (w9.and (k1.and (k2.and (s1.and (s2.and (s3.and (s4.and (p1.and (p2.and (p3.and (s5.and (s6.and s7))))))))))))))))).mono fun n hn H => ?_
    clear mk1 mk2 ha w9 k1 k2 s1 s2 s3 s4 p1 p2 p3 s5 s6 s7
    obtain ⟨e11, e12, e13, em1, em2, e20, k1, k2, s1, s2, s3, s4, p1, p2, p3, s5, s6, s7⟩ := hn
    rw [decide_eq_true hfew] at e12
    obtain ⟨kpa, tpa, mpa, lpa, apa⟩ := PA
    obtain ⟨kpd, tpd, mpd, lpd, apd⟩ := PD
    simp only [D.v_mk, vInts_nil] at em1 em2 k1 k2 s1 s2 s3 s4 p1 p2 p3 s5 s6 s7
    simp -implicitDefEqProofs only [c7, ↓v_lenS, SB, POp.val, AOp.val, WOp.val, Lite.bin, intBin, strBin, eqv, eqMany, eq1, AV.asBool, AV.asInt, AV.asNat, AV.asPtr, AV.asStr, resVals, ResV.val, oneOr, wants, skipped, fillAt, putAt, capOf, optNat, bnd, Nat.reduceBEq, reduceIte, Nat.reduceAdd, Nat.reduceLeDiff, Nat.reduceEqDiff, Nat.reduceSub, Nat.reduceMul, Nat.reduceDiv, SOper.again, same, sameBlk, sameCap, Nat.reduceBneDiff, s_draw2, s_pair, k_pair, asunder, SOper.into, Bool.not_false, Bool.not_true, CL, e11, e12, shutV_vRaws, e13, DS, softV_some shutV_vIntsF]
    -- the first is marked
    generalize hG0 : (((H.bare.push (Obj.row [AV.int IntKind.i64 0] 0 false (some 3))).push (Obj.row [AV.int IntKind.i64 0] 0 false (some 3))).put 0 (Obj.row [AV.int IntKind.i64 0] 0 false (some 3))).put 1 (Obj.row [AV.int IntKind.i64 500] 0 false (some 3)) = G0
    have low0 : HLow G0 := hG0 ▸ (HLow.bare.push.push.put (by simp [h_n, h_nbare])).put (by simp [h_n, h_nput, h_nbare])
    have g00 : G0.t.get 0 = some (.row [.int .i64 (0 : Nat)] 0 false (some 3)) := by rw [← hG0, h_gput, if_neg (by decide), h_gput, if_pos rfl]; rfl
    have g01 : G0.t.get 1 = some (.row [.int .i64 (500 : Nat)] 0 false (some 3)) := by rw [← hG0, h_gput, if_pos rfl]; rfl
    clear hG0
    refine gives_call (em1 G0 0 (some 3) low0 g00) ?_
    rintro v H1 ⟨rfl, g10, kp1⟩
    have low1 := kp1.low low0
    have g11 := kp1.get 1 _ g01 (only_row (by decide))
    have n1 := low1.lt g11
    -- the second
    simp -implicitDefEqProofs only [↓v_lenS, SB, POp.val, AOp.val, WOp.val, Lite.bin, intBin, strBin, eqv, eqMany, eq1, AV.asBool, AV.asInt, AV.asNat, AV.asPtr, AV.asStr, resVals, ResV.val, oneOr, wants, skipped, fillAt, putAt, capOf, optNat, bnd, Nat.reduceBEq, reduceIte, Nat.reduceAdd, Nat.reduceLeDiff, Nat.reduceEqDiff, Nat.reduceSub, Nat.reduceMul, Nat.reduceDiv, SOper.again, same, sameBlk, sameCap, Nat.reduceBneDiff, s_draw2, s_pair, k_pair, asunder, SOper.into, Bool.not_false, Bool.not_true, CL, DS, e13, shutV_vRaws]
    generalize hG1 : (H1.push (Obj.row [AV.int IntKind.i64 0, AV.str [], AV.nils, AV.nils, AV.int IntKind.i64 0] 0 false (some 30))).put H1.n (Obj.row [AV.int IntKind.i64 4, AV.str [], AV.lst 0 0 true [], vData la, AV.int IntKind.i64 0] 0 false (some 30)) = G1
    have lowG1 : HLow G1 := hG1 ▸ low1.push.put (by simp [h_n])
    have ga1 : G1.t.get H1.n = some (Obj.row [AV.int IntKind.i64 4, AV.str [], AV.lst 0 0 true [], vData la, AV.int IntKind.i64 0] 0 false (some 30)) := by rw [← hG1, h_gput, if_pos rfl]
    have gA : ∀ j o, H1.t.get j = some o → G1.t.get j = some o := fun j o h => by
      have := low1 j o h
      rw [← hG1, h_gput, if_neg (by omega), h_get, if_neg (by omega)]; exact h
    clear hG1
    generalize hp1 : H1.n = p1b at *
    refine gives_call (em2 G1 1 (some 3) lowG1 (gA _ _ g11)) ?_
    rintro v H2 ⟨rfl, _, kp2⟩
    have low2 := kp2.low lowG1
    have g20 := kp2.get 0 _ (gA _ _ g10) (only_row (by decide))
    have ga2 := kp2.get p1b _ ga1 (only_row (by omega))
    clear gA ga1 lowG1 kp2 kp1 g10 g11 g00 g01
    have n2 := low2.lt ga2
    have x0 : ¬ 0 = H2.n := by omega
    -- the third
    simp -implicitDefEqProofs only [↓v_lenS, SB, POp.val, AOp.val, WOp.val, Lite.bin, intBin, strBin, eqv, eqMany, eq1, AV.asBool, AV.asInt, AV.asNat, AV.asPtr, AV.asStr, resVals, ResV.val, oneOr, wants, skipped, fillAt, putAt, capOf, optNat, bnd, Nat.reduceBEq, reduceIte, Nat.reduceAdd, Nat.reduceLeDiff, Nat.reduceEqDiff, Nat.reduceSub, Nat.reduceMul, Nat.reduceDiv, SOper.again, same, sameBlk, sameCap, Nat.reduceBneDiff, s_draw2, s_pair, k_pair, asunder, SOper.into, Bool.not_false, Bool.not_true, CL, DS, e13, shutV_vRaws, softV_some shutV_vIntsF, g20, x0]
    generalize hG2 : ((H2.push (Obj.row [AV.int IntKind.i64 0, AV.str [], AV.nils, AV.nils, AV.int IntKind.i64 0] 0 false (some 30))).put H2.n (Obj.row [AV.int IntKind.i64 4, AV.str [], AV.lst 0 0 true [], vData lb, AV.int IntKind.i64 500] 0 false (some 30))).put 0 (Obj.row [AV.int IntKind.i64 0] 0 false (some 3)) = G2
    have lowG2 : HLow G2 := hG2 ▸ (low2.push.put (by simp [h_n])).put (by rw [h_nput, h_n]; omega)
    have gb2 : G2.t.get H2.n = some (Obj.row [AV.int IntKind.i64 4, AV.str [], AV.lst 0 0 true [], vData lb, AV.int IntKind.i64 500] 0 false (some 30)) := by rw [← hG2, h_gput, if_neg (by omega), h_gput, if_pos rfl]
    have ga2' : G2.t.get p1b = some (Obj.row [AV.int IntKind.i64 4, AV.str [], AV.lst 0 0 true [], vData la, AV.int IntKind.i64 0] 0 false (some 30)) := by rw [← hG2, h_gput, if_neg (by omega), h_gput, if_neg (by omega), h_get, if_neg (by omega)]; exact ga2
    have g20' : G2.t.get 0 = some (.row [.int .i64 (0 : Nat)] 0 false (some 3)) := by rw [← hG2, h_gput, if_pos rfl]; rfl
    clear hG2
    have hp12 : ¬ p1b = H2.n := by omega
    generalize hp2 : H2.n = p2b at *
    refine gives_call (em1 G2 0 (some 3) lowG2 g20') ?_
    rintro v H3 ⟨rfl, _, kp3⟩
    have low3 := kp3.low lowG2
    have ga3 := kp3.get p1b _ ga2' (only_row (by omega))
    have gb3 := kp3.get p2b _ gb2 (only_row (by omega))
    clear gb2 ga2' g20' lowG2 kp3 ga2 g20 n2 x0
    have na3 := low3.lt ga3
    have nb3 := low3.lt gb3
    -- its copy
    simp -implicitDefEqProofs only [↓v_lenS, SB, POp.val, AOp.val, WOp.val, Lite.bin, intBin, strBin, eqv, eqMany, eq1, AV.asBool, AV.asInt, AV.asNat, AV.asPtr, AV.asStr, resVals, ResV.val, oneOr, wants, skipped, fillAt, putAt, capOf, optNat, bnd, Nat.reduceBEq, reduceIte, Nat.reduceAdd, Nat.reduceLeDiff, Nat.reduceEqDiff, Nat.reduceSub, Nat.reduceMul, Nat.reduceDiv, SOper.again, same, sameBlk, sameCap, Nat.reduceBneDiff, s_draw2, s_pair, k_pair, asunder, SOper.into, Bool.not_false, Bool.not_true, CL, DS, k_call4S, softV_some shutV_vData]
    generalize hG3 : ((H3.push (Obj.row [AV.int IntKind.i64 0, AV.str [], AV.nils, AV.nils, AV.int IntKind.i64 0] 0 false (some 30))).put H3.n (Obj.row [AV.int IntKind.i64 4, AV.str [], AV.lst 0 0 true [], vData la, AV.int IntKind.i64 0] 0 false (some 30))).put H3.n (Obj.row [AV.int IntKind.i64 4, AV.str [], AV.lst 0 0 true [], vData la, AV.int IntKind.i64 n0] 0 false (some 30)) = G3
    have lowG3 : HLow G3 := hG3 ▸ (low3.push.put (by simp [h_n])).put (by simp [h_nput, h_n])
    have gc3 : G3.t.get H3.n = some (Obj.row [AV.int IntKind.i64 4, AV.str [], AV.lst 0 0 true [], vData la, AV.int IntKind.i64 n0] 0 false (some 30)) := by rw [← hG3, h_gput, if_pos rfl]
    have ga3' : G3.t.get p1b = some (Obj.row [AV.int IntKind.i64 4, AV.str [], AV.lst 0 0 true [], vData la, AV.int IntKind.i64 0] 0 false (some 30)) := by rw [← hG3, h_gput, if_neg (by omega), h_gput, if_neg (by omega), h_get, if_neg (by omega)]; exact ga3
    have gb3' : G3.t.get p2b = some (Obj.row [AV.int IntKind.i64 4, AV.str [], AV.lst 0 0 true [], vData lb, AV.int IntKind.i64 500] 0 false (some 30)) := by rw [← hG3, h_gput, if_neg (by omega), h_gput, if_neg (by omega), h_get, if_neg (by omega)]; exact gb3
    clear hG3
    have hp13 : ¬ p1b = H3.n := by omega
    have hp23 : ¬ p2b = H3.n := by omega
    generalize hp3 : H3.n = p3b at *
    refine gives_call (k1 G3 lowG3) ?_
    rintro v H4 ⟨k', t', ms', l', a', mv, lv, hd, rfl, lm, acc, hbk, hdis, kp4, low4⟩
    simp only [D.mk.injEq] at hd
    obtain ⟨rfl, rfl, rfl, rfl, rfl⟩ := hd
    have ga4 := kp4.get p1b _ ga3' (fun h => h)
    have gb4 := kp4.get p2b _ gb3' (fun h => h)
    have gc4 := kp4.get p3b _ gc3 (fun h => h)
    have hbm : ∀ j o, blk mv j o → j < H4.n := fun j o h => lm.lt low4 h
    have n34 := kp4.n
    clear ga3' gb3' gc3 kp4 lowG3
    have na4 := low4.lt ga4
    have nb4 := low4.lt gb4
    have nc4 := low4.lt gc4
    have y0 : (H4.push (Obj.row [AV.int IntKind.i64 0, AV.str [], AV.nils, AV.nils, AV.int IntKind.i64 0] 0 false (some 30))).t.get H4.n = some (Obj.row [AV.int IntKind.i64 0, AV.str [], AV.nils, AV.nils, AV.int IntKind.i64 0] 0 false (some 30)) := by rw [h_get, if_pos rfl]
    have acc1 := (acc.push low4).put (by decide) y0 (ob := Obj.row [AV.int IntKind.i64 4, AV.str [], mv, lv, AV.int IntKind.i64 n0] 0 false (some 30))
    have low4x : HLow ((H4.push (Obj.row [AV.int IntKind.i64 0, AV.str [], AV.nils, AV.nils, AV.int IntKind.i64 0] 0 false (some 30))).put H4.n (Obj.row [AV.int IntKind.i64 4, AV.str [], mv, lv, AV.int IntKind.i64 n0] 0 false (some 30))) := low4.push.put (by simp [h_n])
    -- the copy has one more
    obtain ⟨lv2, H5, happ, acc5, kp5, low5⟩ := (acc1.push low4x (ob := .row [.int .i64 3, .str [109, 111, 114, 101], .lst 0 0 true [], .lst 0 0 true [], .int .i64 0] 0 true none)).more (e := 30) (bs := 80) (m := 1) (ys := [.int .i64 3, .str [109, 111, 114, 101], .lst 0 0 true [], .lst 0 0 true [], .int .i64 0]) (by simp only [h_n, h_nput]; omega) low4x.push (by decide) rfl rfl (by omega)
    have flv := acc.flat
    have flm := lm.flat
    simp -implicitDefEqProofs only [↓v_lenS, SB, POp.val, AOp.val, WOp.val, Lite.bin, intBin, strBin, eqv, eqMany, eq1, AV.asBool, AV.asInt, AV.asNat, AV.asPtr, AV.asStr, resVals, ResV.val, oneOr, wants, skipped, fillAt, putAt, capOf, optNat, bnd, Nat.reduceBEq, reduceIte, Nat.reduceAdd, Nat.reduceLeDiff, Nat.reduceEqDiff, Nat.reduceSub, Nat.reduceMul, Nat.reduceDiv, SOper.again, same, sameBlk, sameCap, Nat.reduceBneDiff, s_draw2, s_pair, k_pair, asunder, SOper.into, Bool.not_false, Bool.not_true, CL, DS, k_call4S, flv, flm, happ]
    have flv2 := acc5.flat
    have np4 : (H4.push (Obj.row [AV.int IntKind.i64 0, AV.str [], AV.nils, AV.nils, AV.int IntKind.i64 0] 0 false (some 30))).n = H4.n + 1 := by simp only [h_n]
    have rows : ∀ j cs, H4.t.get j = some (.row cs 0 false (some 30)) → H5.t.get j = some (.row cs 0 false (some 30)) := fun j cs h => by
      have := low4 _ _ h
      exact (acc1.push low4x).row (by decide) kp5 (by rw [h_get, if_neg (by simp only [h_n, h_nput]; omega), h_gput, if_neg (by omega), h_get, if_neg (by omega)]; exact h)
    have gd5 : H5.t.get H4.n = some (Obj.row [AV.int IntKind.i64 4, AV.str [], mv, lv, AV.int IntKind.i64 n0] 0 false (some 30)) := (acc1.push low4x).row (by decide) kp5 (by rw [h_get, if_neg (by simp only [h_n, h_nput]; omega), h_gput, if_pos rfl])
    have ga5 := rows _ _ ga4
    have gb5 := rows _ _ gb4
    have gc5 := rows _ _ gc4
    have lm5 : Lie H5 1 0 [] mv := lm.keep fun j o hj ho => kp5.get j o (by
      have := hbm j o hj
      rw [h_get, if_neg (by simp only [h_n, h_nput]; omega), h_gput, if_neg (by omega), h_get, if_neg (by omega)]; exact ho) fun hb => hdis j o hj hb
    have n5 := low5.lt gd5
    have acc6 := acc5.put (by decide) gd5 (ob := Obj.row [AV.int IntKind.i64 4, AV.str [], mv, lv2, AV.int IntKind.i64 n0] 0 false (some 30))
    have lm6 : Lie (H5.put H4.n (Obj.row [AV.int IntKind.i64 4, AV.str [], mv, lv2, AV.int IntKind.i64 n0] 0 false (some 30))) 1 0 [] mv := lm5.keep fun j o hj ho => by
      have := hbm j o hj
      rw [h_gput, if_neg (by omega)]; exact ho
    simp -implicitDefEqProofs only [↓v_lenS, SB, POp.val, AOp.val, WOp.val, Lite.bin, intBin, strBin, eqv, eqMany, eq1, AV.asBool, AV.asInt, AV.asNat, AV.asPtr, AV.asStr, resVals, ResV.val, oneOr, wants, skipped, fillAt, putAt, capOf, optNat, bnd, Nat.reduceBEq, reduceIte, Nat.reduceAdd, Nat.reduceLeDiff, Nat.reduceEqDiff, Nat.reduceSub, Nat.reduceMul, Nat.reduceDiv, SOper.again, same, sameBlk, sameCap, Nat.reduceBneDiff, s_draw2, s_pair, k_pair, asunder, SOper.into, Bool.not_false, Bool.not_true, CL, DS, k_call4S, flv2, flm, gd5]
    have acc7 : Acc G3.n (H5.put H4.n (Obj.row [AV.int IntKind.i64 4, AV.str [], mv, lv2, AV.int IntKind.i64 n0] 0 false (some 30))) 30 5 (la ++ [moreD []]).length ((la ++ [moreD []]).flatMap D.cells) lv2 := by
      rw [more_cells, List.length_append]
      exact acc6
    have gd6 : (H5.put H4.n (Obj.row [AV.int IntKind.i64 4, AV.str [], mv, lv2, AV.int IntKind.i64 n0] 0 false (some 30))).t.get H4.n = some (Obj.row [AV.int IntKind.i64 4, AV.str [], mv, lv2, AV.int IntKind.i64 n0] 0 false (some 30)) := by rw [h_gput, if_pos rfl]
    have low6 := low5.put n5 (ob := Obj.row [AV.int IntKind.i64 4, AV.str [], mv, lv2, AV.int IntKind.i64 n0] 0 false (some 30))
    have rows6 : ∀ j cs, j < H4.n → H5.t.get j = some (.row cs 0 false (some 30)) → (H5.put H4.n (Obj.row [AV.int IntKind.i64 4, AV.str [], mv, lv2, AV.int IntKind.i64 n0] 0 false (some 30))).t.get j = some (.row cs 0 false (some 30)) := fun j cs h1 h => by rw [h_gput, if_neg (by omega)]; exact h
    have ga6 := rows6 _ _ na4 ga5
    have gb6 := rows6 _ _ nb4 gb5
    have gc6 := rows6 _ _ nc4 gc5
    clear rows rows6 ga5 gb5 gc5 acc6 acc5 kp5 happ acc1 low4x y0 gd5 lm5 lm acc hdis hbk ga4 gb4 gc4
    generalize H5.put H4.n (Obj.row [AV.int IntKind.i64 4, AV.str [], mv, lv2, AV.int IntKind.i64 n0] 0 false (some 30)) = G6 at *
    -- the second copy
    obtain ⟨G7a, G7, hs1, hs2, fz⟩ := cells_shut (ms := []) lm6 (Lie.of acc7)
    have lm7 := lm6.froz fz
    have ll7 := (Lie.of acc7).froz fz
    have ga7 := fz.box _ _ _ _ ga6
    have gb7 := fz.box _ _ _ _ gb6
    have gc7 := fz.box _ _ _ _ gc6
    have gd7 := fz.box _ _ _ _ gd6
    have low7 := fz.low low6
    simp -implicitDefEqProofs only [↓v_lenS, SB, POp.val, AOp.val, WOp.val, Lite.bin, intBin, strBin, eqv, eqMany, eq1, AV.asBool, AV.asInt, AV.asNat, AV.asPtr, AV.asStr, resVals, ResV.val, oneOr, wants, skipped, fillAt, putAt, capOf, optNat, bnd, Nat.reduceBEq, reduceIte, Nat.reduceAdd, Nat.reduceLeDiff, Nat.reduceEqDiff, Nat.reduceSub, Nat.reduceMul, Nat.reduceDiv, SOper.again, same, sameBlk, sameCap, Nat.reduceBneDiff, s_draw2, s_pair, k_pair, asunder, SOper.into, Bool.not_false, Bool.not_true, CL, DS, k_call4S, hs1, hs2]
    refine gives_call (k2 G7 low7) ?_
    rintro v H8 ⟨k', t', ms', l', a', me, le, hd, rfl, lme, acce, hbe, hdie, kp8, low8⟩
    simp only [D.mk.injEq] at hd
    obtain ⟨rfl, rfl, rfl, rfl, rfl⟩ := hd
    have ga8 := kp8.get p1b _ ga7 (fun h => h)
    have gb8 := kp8.get p2b _ gb7 (fun h => h)
    have gc8 := kp8.get p3b _ gc7 (fun h => h)
    have gd8 := kp8.get H4.n _ gd7 (fun h => h)
    have lm8 : Lie H8 1 0 [] mv := lm7.keep fun j o hj ho => kp8.get _ _ ho (fun h => h)
    have ll8 := ll7.keep fun j o hj ho => kp8.get _ _ ho (fun h => h)
    have nd7 := low7.lt gd7
    have bmv : ∀ j o, blk mv j o → j < G7.n := fun j o h => lm7.lt low7 h
    have blv : ∀ j o, blk lv2 j o → j < G7.n := fun j o h => ll7.lt low7 h
    have n78 := kp8.n
    clear kp8 ga7 gb7 gc7 gd7 lm7 ll7 fz hs1 hs2 low7 ga6 gb6 gc6 gd6 low6 acc7 lm6 low5 n5
    have fle := acce.flat
    have fme := lme.flat
    have lne := acce.len
    have hE1 : (la ++ [moreD []]).length = la.length + 1 := by simp
    rw [hE1] at acce lne
    have hiw : IntKind.i64.wrap (((la.length + 1 : Nat) : Int) - 1) = ((la.length : Nat) : Int) := by rw [wrap64 (by omega) (by omega)]; omega
    rcases acce with ⟨h, _⟩ | ⟨_, hcl, ke, rfl, hke, gke⟩
    · omega
    have nke := low8.lt gke
    rw [more_cells] at gke hcl
    have nd8 := low8.lt gd8
    have hcl5 : (la.flatMap D.cells).length = la.length * 5 := flat_len D.cells_len la
    have hset : ∀ x : AV, List.take (la.length * 5 + 2) (la.flatMap D.cells ++ [.int .i64 3, .str [109, 111, 114, 101], vInts [], .lst 0 0 true [], .int .i64 0]) ++ [x] ++ List.drop (la.length * 5 + 2 + 1) (la.flatMap D.cells ++ [.int .i64 3, .str [109, 111, 114, 101], vInts [], .lst 0 0 true [], .int .i64 0]) = la.flatMap D.cells ++ [.int .i64 3, .str [109, 111, 114, 101], x, .lst 0 0 true [], .int .i64 0] := fun x => by
      rw [← hcl5, List.take_append, List.drop_append, List.take_of_length_le (by omega), List.drop_of_length_le (by omega), Nat.add_sub_cancel_left, show (la.flatMap D.cells).length + 2 + 1 - (la.flatMap D.cells).length = 3 by omega]
      simp
    have hlen5 : la.length * 5 + 2 + 1 ≤ (la.flatMap D.cells ++ [.int .i64 3, .str [109, 111, 114, 101], vInts [], .lst 0 0 true [], .int .i64 0]).length := by simp only [List.length_append, hcl5, List.length_cons, List.length_nil]; omega
    have jlt : la.length < la.length + 1 := by omega
    have z1 : ¬ ke = H8.n := by omega
    have z2 : ¬ ke = H8.n + 1 := by omega
    have na8 := low8.lt ga8
    have nb8 := low8.lt gb8
    have nc8 := low8.lt gc8
    have kg8 : H4.n < ke := by omega
    have u1 : ¬ p1b = ke := by omega
    have u2 : ¬ p2b = ke := by omega
    have u3 : ¬ p3b = ke := by omega
    have u4 : ¬ H4.n = ke := by omega
    have u5 : ¬ p1b = H8.n := by omega
    have u6 : ¬ p2b = H8.n := by omega
    have u7 : ¬ p3b = H8.n := by omega
    have u8 : ¬ H4.n = H8.n := by omega
    have u9 : ¬ p1b = H8.n + 1 := by omega
    have u10 : ¬ p2b = H8.n + 1 := by omega
    have u11 : ¬ p3b = H8.n + 1 := by omega
    have u12 : ¬ H4.n = H8.n + 1 := by omega
    have u13 : ¬ H8.n = ke := by omega
    simp -implicitDefEqProofs only [↓v_lenS, SB, POp.val, AOp.val, WOp.val, Lite.bin, intBin, strBin, eqv, eqMany, eq1, AV.asBool, AV.asInt, AV.asNat, AV.asPtr, AV.asStr, resVals, ResV.val, oneOr, wants, skipped, fillAt, putAt, capOf, optNat, bnd, Nat.reduceBEq, reduceIte, Nat.reduceAdd, Nat.reduceLeDiff, Nat.reduceEqDiff, Nat.reduceSub, Nat.reduceMul, Nat.reduceDiv, SOper.again, same, sameBlk, sameCap, Nat.reduceBneDiff, s_draw2, s_pair, k_pair, asunder, SOper.into, Bool.not_false, Bool.not_true, CL, DS, k_call4S, fle, fme, lne, e20, hE1, hiw, jlt, gke, hset, hlen5, z1, z2, ga8, gb8, gc8, gd8, u1, u2, u3, u4, u5, u6, u7, u8, u9, u10, u11, u12, u13, s1, s2, p1]
    generalize hG9 : (((H8.push (Obj.row [AV.int IntKind.i64 0, AV.str [], AV.nils, AV.nils, AV.int IntKind.i64 0] 0 false (some 30))).put H8.n (Obj.row [AV.int IntKind.i64 4, AV.str [], me, AV.slice (Blk.new ke) 0 (la.length + 1) (Cap.gro 5), AV.int IntKind.i64 n0] 0 false (some 30))).push (Obj.row [AV.int IntKind.i64 w] 0 true none)).put ke (Obj.row (List.flatMap D.cells la ++ [AV.int IntKind.i64 3, AV.str [109, 111, 114, 101], AV.lst 1 1 true [AV.int IntKind.i64 w], AV.lst 0 0 true [], AV.int IntKind.i64 0]) 5 false (some 30)) = G9
    have gets : ∀ j, j < H8.n → j ≠ ke → ∀ o, H8.t.get j = some o → G9.t.get j = some o := fun j h1 h2 o h => by
      rw [← hG9, h_gput, if_neg h2, h_get, if_neg (by simp only [h_nput, h_n]; omega), h_gput, if_neg (by omega), h_get, if_neg (by omega)]; exact h
    have here : Here G9 la lb n0 w p1b p2b p3b H4.n H8.n mv lv2 me (.slice (.new ke) 0 (la.length + 1) (.gro 5)) := by
      refine ⟨gets _ na8 u1 _ ga8, gets _ nb8 u2 _ gb8, gets _ nc8 u3 _ gc8, gets _ nd8 u4 _ gd8, ?_, ?_, ?_, ?_, ?_⟩
      · rw [← hG9, h_gput, if_neg u13, h_get, if_neg (by simp only [h_nput, h_n]; omega), h_gput, if_pos rfl]
      · exact lm8.keep fun j o hj ho => gets j (by have := bmv j o hj; omega) (by have := bmv j o hj; omega) o ho
      · exact ll8.keep fun j o hj ho => gets j (by have := blv j o hj; omega) (by have := blv j o hj; omega) o ho
      · exact lme.keep fun j o hj ho => gets j (low8 j o ho) (fun h => hdie j o hj (by rw [h]; exact ⟨_, _, _, rfl⟩)) o ho
      · refine .inr ⟨by omega, ?_, ke, false, some 30, rfl, by rw [← hG9, h_gput, if_pos rfl]⟩
        simp only [List.length_append, hcl5, List.length_cons, List.length_nil]; omega
    clear hG9 gets
    generalize hle : AV.slice (.new ke) 0 (la.length + 1) (.gro 5) = le at *
    -- all is asked for
    obtain ⟨Ga, Gb, t1, t2, f1⟩ := cells_shut (ms := []) here.m here.l
    rw [vInts_nil] at t1
    have hereb := here.froz f1
    obtain ⟨Gc1, Gc, t3, t4, f2⟩ := cells_shut (ms := []) hereb.m hereb.l
    rw [vInts_nil] at t3
    have herec := hereb.froz f2
    obtain ⟨Gd1, Gd, t5, t6, f3⟩ := more_shut herec.me herec.le
    have hered := herec.froz f3
    obtain ⟨Ge1, Ge, t7, t8, f4⟩ := cells_shut (ms := []) hered.m hered.l
    rw [vInts_nil] at t7
    have heree := hered.froz f4
    obtain ⟨Gf1, Gf, t9, t10, f5⟩ := more_shut heree.me heree.le
    have heref := heree.froz f5
    have bb : ∀ x : Bool, (x == x) = true := fun x => by cases x <;> rfl
    have ⟨a1, a2, a3, a4, a5, _, _, _, _⟩ := hereb
    have ⟨b1, b2, b3, b4, b5, _, _, _, _⟩ := hered
    have ⟨d1, d2, d3, d4, d5, _, _, _, _⟩ := heree
    have ⟨f1, f2, f3, f4, f5, _, _, _, _⟩ := heref
    simp -implicitDefEqProofs only [↓v_lenS, SB, POp.val, AOp.val, WOp.val, Lite.bin, intBin, strBin, eqv, eqMany, eq1, AV.asBool, AV.asInt, AV.asNat, AV.asPtr, AV.asStr, resVals, ResV.val, oneOr, wants, skipped, fillAt, putAt, capOf, optNat, bnd, Nat.reduceBEq, reduceIte, Nat.reduceAdd, Nat.reduceLeDiff, Nat.reduceEqDiff, Nat.reduceSub, Nat.reduceMul, Nat.reduceDiv, SOper.again, same, sameBlk, sameCap, Nat.reduceBneDiff, s_draw2, s_pair, k_pair, asunder, SOper.into, Bool.not_false, Bool.not_true, CL, DS, t1, t2, t3, t4, t5, t6, t7, t8, t9, t10, a1, a2, a3, a4, a5, b1, b2, b3, b4, b5, d1, d2, d3, d4, d5, f1, f2, f3, f4, f5, s3, s4, s5, s6, s7, p2, p3, bb, fle, fme, flv2, flm, Ends, gives_ret]
    exact ⟨_, rfl⟩
  · refine Ret.of rfl (code7 _ _) rfl rfl (fun H => by simp -implicitDefEqProofs only [↓v_lenS, SB, POp.val, AOp.val, WOp.val, Lite.bin, intBin, strBin, eqv, eqMany, eq1, AV.asBool, AV.asInt, AV.asNat, AV.asPtr, AV.asStr, resVals, ResV.val, oneOr, wants, skipped, fillAt, putAt, capOf, optNat, bnd, Nat.reduceBEq, reduceIte, Nat.reduceAdd, Nat.reduceLeDiff, Nat.reduceEqDiff, Nat.reduceSub, Nat.reduceMul, Nat.reduceDiv, SOper.again, same, sameBlk, sameCap, Nat.reduceBneDiff, s_draw2, s_pair, k_pair, asunder, SOper.into, Bool.not_false, Bool.not_true, shutV_vRaws, shutV_vIntsF]) ?_
    refine (known11.and (few12 l hl hf)).mono fun n hn H => ?_
    obtain ⟨e11, e12⟩ := hn
    rw [decide_eq_false hfew] at e12
    simp -implicitDefEqProofs only [c7, ↓v_lenS, SB, POp.val, AOp.val, WOp.val, Lite.bin, intBin, strBin, eqv, eqMany, eq1, AV.asBool, AV.asInt, AV.asNat, AV.asPtr, AV.asStr, resVals, ResV.val, oneOr, wants, skipped, fillAt, putAt, capOf, optNat, bnd, Nat.reduceBEq, reduceIte, Nat.reduceAdd, Nat.reduceLeDiff, Nat.reduceEqDiff, Nat.reduceSub, Nat.reduceMul, Nat.reduceDiv, SOper.again, same, sameBlk, sameCap, Nat.reduceBneDiff, s_draw2, s_pair, k_pair, asunder, SOper.into, Bool.not_false, Bool.not_true, CL, e11, e12, shutV_vRaws, Ends, gives_ret]
    exact ⟨_, rfl⟩

end Go.Lite
