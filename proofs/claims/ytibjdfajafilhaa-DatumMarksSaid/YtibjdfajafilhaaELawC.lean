/-
  DatumDeep, DatumAll by the interpreter.
-/
import Derived.Test.YtibjdfajafilhaaELawB
namespace Go.Lite
open Go Go.Proofs
set_option maxRecDepth 100000
set_option linter.unusedSimpArgs false
set_option linter.unusedVariables false

theorem make_plain : ∀ r : Raw, r.make.plain = r.make := Raw.indA fun k q l ih => by
  rw [Raw.make]
  split
  · rfl
  · split
    · rfl
    · split
      · rfl
      · rw [D.plain]
        congr 1
        rw [plains_map, makes_map, List.map_map]
        exact List.map_congr_left fun r hr => ih r hr

theorem zipAll_sizes : ∀ (l l' : List D), (∀ d ∈ l, ∀ d', d.same d' = true → d.size = d'.size) → zipAll D.same l l' = true → D.sizes l = D.sizes l'
  | [], [], _, _ => rfl
  | [], y :: ys, _, h => by simp [zipAll] at h
  | x :: xs, [], _, h => by simp [zipAll] at h
  | x :: xs, y :: ys, hh, h => by
    rw [zipAll, Bool.and_eq_true] at h
    rw [D.sizes, D.sizes, hh x (by simp) y h.1, zipAll_sizes xs ys (fun d hd => hh d (by simp [hd])) h.2]

theorem same_size : ∀ a b : D, a.same b = true → a.size = b.size := D.indA fun k t ms l p ih b h => by
  obtain ⟨k', t', ms', l', p'⟩ := b
  rw [D.same, D.sames_eq] at h
  simp only [Bool.and_eq_true] at h
  rw [D.size, D.size, zipAll_sizes l l' ih h.2.2.2]

/-- so many brackets about the data -/
def kids (ds : List D) : Nat → List D
  | 0 => ds
  | n + 1 => [.mk 4 [] [] (kids ds n) 0]

theorem kids_facts {ds : List D} (h1 : D.oks ds) (h2 : ∀ d ∈ ds, d.plain = d) (h3 : D.smalls ds) (h4 : ds.length ≤ 60) : ∀ n, D.oks (kids ds n) ∧ (∀ d ∈ kids ds n, d.plain = d) ∧ D.smalls (kids ds n) ∧ (kids ds n).length ≤ 60 ∧
    D.sizes (kids ds n) = D.sizes ds + n ∧ D.txts (kids ds n) = List.replicate n 40 ++ D.txts ds ++ List.replicate n 41
  | 0 => ⟨h1, h2, h3, h4, rfl, by simp [kids]⟩
  | n + 1 => by
    obtain ⟨g1, g2, g3, g4, g5, g6⟩ := kids_facts h1 h2 h3 h4 n
    rw [kids]
    refine ⟨⟨⟨by simp, g1⟩, trivial⟩, fun d hd => ?_, ⟨⟨by simp, by omega, g3⟩, trivial⟩, by simp, ?_, ?_⟩
    · rw [List.mem_singleton.1 hd, D.plain]
      congr 1
      rw [plains_map]
      conv => rhs; rw [← List.map_id (kids ds n)]
      exact List.map_congr_left g2
    · simp only [D.sizes, D.size, g5]; omega
    · simp only [D.txts, D.tails, D.txt, if_true, g6, List.append_nil]
      rw [List.replicate_succ, List.replicate_succ']
      simp [List.append_assoc]

/-- DatumDeep -/
theorem law9 (l : List Raw) (q : Int) (hl : l.length ≤ 9223372036854775807) (hf : Raw.fits l) : Ret P2 9 [vRaws l, .int .i64 q] (.bool true) := by
  by_cases hfew : sizeR 21 l ≤ 60
  · have hc : Raw.cnts l ≤ 60 := by rw [← few_cnt 21 l hfew]; exact hfew
    obtain ⟨i1, i2, i3, i4, i5⟩ := makes_facts l
    have hlen : (Raw.makes l).length ≤ 60 := by have := len_le_cnts l; rw [makes_len]; omega
    have hpl : ∀ d ∈ Raw.makes l, d.plain = d := fun d hd => by
      rw [makes_map] at hd
      obtain ⟨r, _, rfl⟩ := List.mem_map.1 hd
      exact make_plain r
    have kf := kids_facts i1 hpl (i5 (by omega)) hlen
    have ha := all13 l (by omega)
    obtain ⟨w0, w1⟩ := within_range q 50 (by decide) (by decide)
    obtain ⟨k, hk⟩ : ∃ k : Nat, within q 50 = (k : Int) := ⟨(within q 50).toNat, by omega⟩
    have hk50 : k < 50 := by omega
    generalize hds : Raw.makes l = ds at *
    obtain ⟨z1, z2, z3, z4, z5, z6⟩ := kf k
    have hE : (D.mk 4 [] [] (kids ds k) 0).txt = List.replicate k 40 ++ (D.mk 4 [] [] ds 0).txt ++ List.replicate k 41 := by
      rw [D.txt, D.txt, if_pos rfl, if_pos rfl, z6]
      have e1 : [40] ++ List.replicate k 40 = List.replicate k 40 ++ [40] := by rw [← List.replicate_succ']; rfl
      have e2 : List.replicate k 41 ++ [41] = [41] ++ List.replicate k 41 := by rw [← List.replicate_succ']; rfl
      calc [40] ++ (List.replicate k 40 ++ D.txts ds ++ List.replicate k 41) ++ [41]
          = ([40] ++ List.replicate k 40) ++ D.txts ds ++ (List.replicate k 41 ++ [41]) := by simp [List.append_assoc]
        _ = _ := by rw [e1, e2]; simp [List.append_assoc]
    have hZ : (D.mk 4 [] [] (kids ds k) 0).size = (D.mk 4 [] [] ds 0).size + k := by rw [D.size, D.size, z5]; omega
    have okE : (D.mk 4 [] [] (kids ds k) 0).ok := ⟨by simp, z1⟩
    have okd : (D.mk 4 [] [] ds 0).ok := ⟨by simp, i1⟩
    have smE : (D.mk 4 [] [] (kids ds k) 0).small := ⟨by simp, by omega, z3⟩
    have hpE : (D.mk 4 [] [] (kids ds k) 0).plain = D.mk 4 [] [] (kids ds k) 0 := by
      rw [D.plain]
      congr 1
      rw [plains_map]
      conv => rhs; rw [← List.map_id (kids ds k)]
      exact List.map_congr_left z2
    have tl : (D.mk 4 [] [] ds 0).txt.length ≤ 1862 := by
      rw [D.txt, if_pos rfl]
      simp only [List.length_append, List.length_singleton]
      omega
    have hsm : (D.mk 4 [] [] (kids ds k) 0).same (.mk 4 [] [] ds 0) = decide (k = 0) := by
      by_cases h0 : k = 0
      · subst h0
        rw [decide_eq_true rfl]
        exact D.same_refl _
      · rw [decide_eq_false h0]
        cases hh : (D.mk 4 [] [] (kids ds k) 0).same (.mk 4 [] [] ds 0) with
        | false => rfl
        | true =>
          have := same_size _ _ hh
          rw [hZ] at this
          omega
    have sE := D.same_refl (.mk 4 [] [] (kids ds k) 0)
    have tE : (D.mk 4 [] [] (kids ds k) 0).txt.length ≤ 1962 := by rw [hE]; simp only [List.length_append, List.length_replicate]; omega
    have zd : (D.mk 4 [] [] ds 0).size ≤ 61 := by rw [D.size]; omega
    have c1 := (text14 _ okE (by omega)).and ((text14 _ okd (by omega)).and ((size15 (.mk 4 [] [] (kids ds k) 0) (by omega)).and ((size15 (.mk 4 [] [] ds 0) (by omega)).and ((plain18 _ smE).and ((same21 _ (D.small.fit _ smE) (.mk 4 [] [] ds 0)).and (same25 _ (D.small.fit _ smE) (.mk 4 [] [] (kids ds k) 0)))))))
    rw [hpE, sE, hsm] at c1
    have hw := run20 q 50 (by decide)
    rw [hk] at hw
    refine Ret.of rfl (code9 _ _) rfl rfl (fun H => by simp -implicitDefEqProofs only [↓v_lenS, SB, POp.val, AOp.val, WOp.val, Lite.bin, intBin, strBin, eqv, eqMany, eq1, AV.asBool, AV.asInt, AV.asNat, AV.asPtr, AV.asStr, resVals, ResV.val, oneOr, wants, skipped, fillAt, putAt, capOf, optNat, bnd, Nat.reduceBEq, reduceIte, Nat.reduceAdd, Nat.reduceLeDiff, Nat.reduceEqDiff, Nat.reduceSub, Nat.reduceMul, Nat.reduceDiv, SOper.again, same, sameBlk, sameCap, Nat.reduceBneDiff, shutV_vRaws]) ?_
    refine (known11.and ((few12 l hl hf).and (ha.and (hw.and (c1.and (Ev.ge (k + 1))))))).mono fun n hn H => ?_
    obtain ⟨e11, e12, e13, ew, ⟨tE', td, sE', sd, pE, sm, sr⟩, hge⟩ := hn
    rw [decide_eq_true hfew] at e12
    have lE : (D.mk 4 [] [] (kids ds k) 0).txt = List.replicate k 40 ++ (D.mk 4 [] [] ds 0).txt ++ List.replicate k 41 := hE
    generalize (D.mk 4 [] [] (kids ds k) 0).txt = TE at *
    generalize (D.mk 4 [] [] ds 0).txt = TD at *
    generalize (D.mk 4 [] [] (kids ds k) 0).size = ZE at *
    generalize (D.mk 4 [] [] ds 0).size = ZD at *
    simp only [D.v_mk, vInts_nil] at tE' td sE' sd pE sm sr
    simp -implicitDefEqProofs only [c9, ↓v_lenS, SB, POp.val, AOp.val, WOp.val, Lite.bin, intBin, strBin, eqv, eqMany, eq1, AV.asBool, AV.asInt, AV.asNat, AV.asPtr, AV.asStr, resVals, ResV.val, oneOr, wants, skipped, fillAt, putAt, capOf, optNat, bnd, Nat.reduceBEq, reduceIte, Nat.reduceAdd, Nat.reduceLeDiff, Nat.reduceEqDiff, Nat.reduceSub, Nat.reduceMul, Nat.reduceDiv, SOper.again, same, sameBlk, sameCap, Nat.reduceBneDiff, CL, e11, e12, shutV_vRaws, e13, DS, ew]
    refine loop_rounds k (fun i fr H2 => ∃ x, (∀ d H, shutC d x H = some (vData (kids ds i), H)) ∧ canon x = some (vData (kids ds i)) ∧ x.flat = true ∧ HLow H2 ∧ H2.t.get 0 = some (.row [.int .i64 4, .str [], .nils, vData ds, .int .i64 0] 0 false (some 30)) ∧ H2.t.get 1 = some (.row [.int .i64 4, .str [], .nils, x, .int .i64 0] 0 false (some 30)) ∧
        fr 5 = .int .i64 k ∧ fr 6 = .ptr (.new 0) 0 ∧ fr 7 = .str (List.replicate i 40) ∧ fr 8 = .str (List.replicate i 41) ∧ fr 9 = .ptr (.new 1) 0 ∧ fr 10 = .int .i64 i) ?_ ?_ n 0 _ _ (by omega) (by omega) ?_
    · rintro i fr H2 K' hi ⟨x, hx1, hx2, hx3, low, g0, g1, h5, h6, h7, h8, h9, h10⟩ hKe hKr hK
      have hlt : (i : Int) < (k : Int) := by omega
      have hw := wrap_succ hi (by omega)
      have hf1 : (List.replicate i 40).length + 1 ≤ 4611686018427387904 := by simp only [List.length_replicate]; omega
      have hf2 : (List.replicate i 41).length + 1 ≤ 4611686018427387904 := by simp only [List.length_replicate]; omega
      have r1 : List.replicate (i + 1) 40 = List.replicate i 40 ++ [40] := List.replicate_succ'
      have r2 : List.replicate (i + 1) 41 = List.replicate i 41 ++ [41] := List.replicate_succ'
      have hn1 := low.lt g1
      have n0 : ¬ 0 = H2.n := by omega
      have n1 : ¬ 1 = H2.n := by omega
      generalize hR1 : List.replicate i 40 = R1 at *
      generalize hR2 : List.replicate i 41 = R2 at *
      simp -implicitDefEqProofs only [c9_l0, ↓v_lenS, SB, POp.val, AOp.val, WOp.val, Lite.bin, intBin, strBin, eqv, eqMany, eq1, AV.asBool, AV.asInt, AV.asNat, AV.asPtr, AV.asStr, resVals, ResV.val, oneOr, wants, skipped, fillAt, putAt, capOf, optNat, bnd, Nat.reduceBEq, reduceIte, Nat.reduceAdd, Nat.reduceLeDiff, Nat.reduceEqDiff, Nat.reduceSub, Nat.reduceMul, Nat.reduceDiv, SOper.again, same, sameBlk, sameCap, Nat.reduceBneDiff, CL, DS, h5, h6, h7, h8, h9, h10, hlt, g0, g1, hx2, hx3, hf1, hf2, hw, n0, n1]
      refine hK _ _ ⟨.lst 5 1 true (D.mk 4 [] [] (kids ds i) 0).cells, fun d H => ?_, ?_, rfl, (low.push).put (by rw [h_n]; omega), ?_⟩
      · rw [shutC_lstF, kids]
        simp [AV.L, vData, vList]
      · rw [canon_lst, kids]
        simp [AV.L, vData, vList]
      · rw [r1, r2, D.cells_mk, vInts_nil]
        simp -implicitDefEqProofs only [↓v_lenS, SB, POp.val, AOp.val, WOp.val, Lite.bin, intBin, strBin, eqv, eqMany, eq1, AV.asBool, AV.asInt, AV.asNat, AV.asPtr, AV.asStr, resVals, ResV.val, oneOr, wants, skipped, fillAt, putAt, capOf, optNat, bnd, Nat.reduceBEq, reduceIte, Nat.reduceAdd, Nat.reduceLeDiff, Nat.reduceEqDiff, Nat.reduceSub, Nat.reduceMul, Nat.reduceDiv, SOper.again, same, sameBlk, sameCap, Nat.reduceBneDiff, h5, h6, h9, g0, n0, n1]
    · rintro fr H2 K' ⟨x, hx1, hx2, hx3, low, g0, g1, h5, h6, h7, h8, h9, h10⟩ hKe hKr
      have hn1 := low.lt g1
      have hf1 : (List.replicate k 40).length + TD.length ≤ 4611686018427387904 := by simp only [List.length_replicate]; omega
      have hf2 : (List.replicate k 40 ++ TD).length + (List.replicate k 41).length ≤ 4611686018427387904 := by simp only [List.length_append, List.length_replicate]; omega
      have ht : (TE == List.replicate k 40 ++ TD ++ List.replicate k 41) = true := by rw [lE]; simp
      have hw2 : IntKind.i64.wrap ((ZD : Int) + (k : Int)) = ((ZD + k : Nat) : Int) := wrap_nat (by omega)
      have hz : (((ZE : Nat) : Int) == ((ZD + k : Nat) : Int)) = true := by rw [hZ]; simp
      have hb : (decide (k = 0) == ((k : Int) == 0)) = true := by
        by_cases h0 : k = 0
        · subst h0; rfl
        · have : ((k : Int) == 0) = false := by simp; omega
          rw [this, decide_eq_false h0]; rfl
      generalize List.replicate k 40 = R1 at *
      generalize List.replicate k 41 = R2 at *
      simp -implicitDefEqProofs only [List.length_append] at hf2
      simp -implicitDefEqProofs only [c9_l0, ↓v_lenS, SB, POp.val, AOp.val, WOp.val, Lite.bin, intBin, strBin, eqv, eqMany, eq1, AV.asBool, AV.asInt, AV.asNat, AV.asPtr, AV.asStr, resVals, ResV.val, oneOr, wants, skipped, fillAt, putAt, capOf, optNat, bnd, Nat.reduceBEq, reduceIte, Nat.reduceAdd, Nat.reduceLeDiff, Nat.reduceEqDiff, Nat.reduceSub, Nat.reduceMul, Nat.reduceDiv, SOper.again, same, sameBlk, sameCap, Nat.reduceBneDiff, CL, DS, h5, h6, h7, h8, h9, h10, Int.lt_irrefl, hKe, g0, g1, hx1, hx3, tE', td, sE', sd, pE, sm, sr, hf1, hf2, ht, hw2, hz, hb, Ends, gives_ret, List.length_append]
      exact ⟨_, rfl⟩
    · refine ⟨vData ds, fun d H => shutC_vData, canon_vData, fl_vData, ?_, ?_⟩
      · exact ((((HLow.bare.push).put (by simp [h_n, h_nbare])).push).put (by simp [h_n, h_nbare, h_nput]))
      · simp -implicitDefEqProofs only [↓v_lenS, SB, POp.val, AOp.val, WOp.val, Lite.bin, intBin, strBin, eqv, eqMany, eq1, AV.asBool, AV.asInt, AV.asNat, AV.asPtr, AV.asStr, resVals, ResV.val, oneOr, wants, skipped, fillAt, putAt, capOf, optNat, bnd, Nat.reduceBEq, reduceIte, Nat.reduceAdd, Nat.reduceLeDiff, Nat.reduceEqDiff, Nat.reduceSub, Nat.reduceMul, Nat.reduceDiv, SOper.again, same, sameBlk, sameCap, Nat.reduceBneDiff, List.replicate_zero]
        rfl
  · refine Ret.of rfl (code9 _ _) rfl rfl (fun H => by simp -implicitDefEqProofs only [↓v_lenS, SB, POp.val, AOp.val, WOp.val, Lite.bin, intBin, strBin, eqv, eqMany, eq1, AV.asBool, AV.asInt, AV.asNat, AV.asPtr, AV.asStr, resVals, ResV.val, oneOr, wants, skipped, fillAt, putAt, capOf, optNat, bnd, Nat.reduceBEq, reduceIte, Nat.reduceAdd, Nat.reduceLeDiff, Nat.reduceEqDiff, Nat.reduceSub, Nat.reduceMul, Nat.reduceDiv, SOper.again, same, sameBlk, sameCap, Nat.reduceBneDiff, shutV_vRaws]) ?_
    refine (known11.and (few12 l hl hf)).mono fun n hn H => ?_
    obtain ⟨e11, e12⟩ := hn
    rw [decide_eq_false hfew] at e12
    simp -implicitDefEqProofs only [c9, ↓v_lenS, SB, POp.val, AOp.val, WOp.val, Lite.bin, intBin, strBin, eqv, eqMany, eq1, AV.asBool, AV.asInt, AV.asNat, AV.asPtr, AV.asStr, resVals, ResV.val, oneOr, wants, skipped, fillAt, putAt, capOf, optNat, bnd, Nat.reduceBEq, reduceIte, Nat.reduceAdd, Nat.reduceLeDiff, Nat.reduceEqDiff, Nat.reduceSub, Nat.reduceMul, Nat.reduceDiv, SOper.again, same, sameBlk, sameCap, Nat.reduceBneDiff, CL, e11, e12, shutV_vRaws, Ends, gives_ret]
    exact ⟨_, rfl⟩

end Go.Lite
