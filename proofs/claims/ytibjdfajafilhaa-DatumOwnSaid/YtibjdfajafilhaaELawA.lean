/-
  What the laws ask of raw data that are not too many; DatumText, DatumPlain, DatumDeep by the interpreter.
-/
import Derived.Test.YtibjdfajafilhaaEPureA
namespace Go.Lite
open Go Go.Proofs
set_option maxRecDepth 100000
set_option linter.unusedSimpArgs false
set_option linter.unusedVariables false

theorem getD_mem {α : Type} {tab : List α} {j : Nat} {d : α} : tab.getD j d ∈ tab ∨ tab.getD j d = d := by
  rw [List.getD_eq_getElem?_getD]
  cases hj : tab[j]? with
  | none => exact .inr rfl
  | some t => exact .inl (List.mem_of_getElem? hj)

theorem tab_ok {tab : List (List Nat)} (h : tab.all (fun t => t.all fun c => decide (c < 256)) = true) (j : Nat) : ∀ c ∈ tab.getD j [], c < 256 := by
  intro c hc
  rcases getD_mem (tab := tab) (j := j) (d := []) with h1 | h1
  · simp only [List.all_eq_true, decide_eq_true_eq] at h
    exact h _ h1 c hc
  · rw [h1] at hc; cases hc

theorem tab_len {tab : List (List Nat)} (h : tab.all (fun t => decide (t.length ≤ 30)) = true) (j : Nat) : (tab.getD j []).length ≤ 30 := by
  rcases getD_mem (tab := tab) (j := j) (d := []) with h1 | h1
  · simp only [List.all_eq_true, decide_eq_true_eq] at h
    exact h _ h1
  · rw [h1]; simp

/-- what Make makes is right, and no more than the raw datum allows -/
theorem make_facts : ∀ r : Raw, r.make.ok ∧ r.make.size ≤ r.cnt ∧ r.make.txt.length + 1 ≤ 31 * r.cnt ∧ (r.cnt ≤ 1048576 → r.make.small) := Raw.indA fun k q l ih => by
  rw [Raw.make, Raw.cnt]
  have leaf : ∀ (kd : Int) (t : List Nat), kd ≠ 4 → (∀ c ∈ t, c < 256) → t.length ≤ 30 →
      (D.mk kd t [] [] 0).ok ∧ (D.mk kd t [] [] 0).size ≤ 1 + Raw.cnts l ∧ (D.mk kd t [] [] 0).txt.length + 1 ≤ 31 * (1 + Raw.cnts l) ∧ (1 + Raw.cnts l ≤ 1048576 → (D.mk kd t [] [] 0).small) := by
    intro kd t h1 h2 h3
    refine ⟨⟨h2, trivial⟩, by simp [D.size, D.sizes], ?_, fun _ => ⟨by simp, by simp, trivial⟩⟩
    rw [D.txt, if_neg h1]; omega
  split
  · exact leaf 1 _ (by decide) (tab_ok (by decide) _) (tab_len (by decide) _)
  · split
    · exact leaf 2 _ (by decide) (tab_ok (by decide) _) (tab_len (by decide) _)
    · split
      · exact leaf 3 _ (by decide) (tab_ok (by decide) _) (tab_len (by decide) _)
      · have hl := len_le_cnts l
        have h1 : D.sizes (Raw.makes l) ≤ Raw.cnts l := by
          clear hl leaf
          induction l with
          | nil => simp [Raw.makes, D.sizes]
          | cons r l ihl =>
            rw [Raw.makes, D.sizes, Raw.cnts]
            have := ih r (by simp)
            have := ihl fun d hd => ih d (by simp [hd])
            omega
        have h2 : (D.tails (Raw.makes l)).length ≤ 31 * Raw.cnts l := by
          clear hl h1 leaf
          induction l with
          | nil => simp [Raw.makes, D.tails]
          | cons r l ihl =>
            rw [Raw.makes, D.tails, Raw.cnts]
            have := ih r (by simp)
            have := ihl fun d hd => ih d (by simp [hd])
            simp only [List.length_append, List.length_singleton]
            omega
        have h3 : (D.txts (Raw.makes l)).length ≤ (D.tails (Raw.makes l)).length := by
          cases Raw.makes l with
          | nil => simp [D.txts]
          | cons d l => simp only [D.txts, D.tails, List.length_append, List.length_singleton]; omega
        refine ⟨⟨by simp, ?_⟩, by rw [D.size]; omega, ?_, fun hc => ?_⟩
        · rw [D.oks_iff, makes_map]
          intro d hd
          obtain ⟨r, hr, rfl⟩ := List.mem_map.1 hd
          exact (ih r hr).1
        · rw [D.txt, if_pos rfl]
          simp only [List.length_append, List.length_singleton]
          omega
        · rw [D.small, D.smalls_iff, makes_len]
          refine ⟨by simp, by omega, fun d hd => ?_⟩
          rw [makes_map] at hd
          obtain ⟨r, hr, rfl⟩ := List.mem_map.1 hd
          have := cnt_mem hr
          exact (ih r hr).2.2.2 (by omega)

theorem makes_facts (l : List Raw) : D.oks (Raw.makes l) ∧ D.sizes (Raw.makes l) ≤ Raw.cnts l ∧ (D.tails (Raw.makes l)).length ≤ 31 * Raw.cnts l ∧ (D.txts (Raw.makes l)).length ≤ 31 * Raw.cnts l ∧ (Raw.cnts l ≤ 1048576 → D.smalls (Raw.makes l)) := by
  have h : D.oks (Raw.makes l) ∧ D.sizes (Raw.makes l) ≤ Raw.cnts l ∧ (D.tails (Raw.makes l)).length ≤ 31 * Raw.cnts l ∧ (Raw.cnts l ≤ 1048576 → D.smalls (Raw.makes l)) := by
    induction l with
    | nil => simp [Raw.makes, D.oks, D.sizes, D.tails, D.smalls]
    | cons r l ih =>
      obtain ⟨i1, i2, i3, i4⟩ := ih
      obtain ⟨f1, f2, f3, f4⟩ := make_facts r
      rw [Raw.makes, D.oks, D.sizes, D.tails, D.smalls, Raw.cnts]
      refine ⟨⟨f1, i1⟩, by omega, ?_, fun h => ⟨f4 (by omega), i4 (by omega)⟩⟩
      simp only [List.length_append, List.length_singleton]
      omega
  obtain ⟨i1, i2, i3, i4⟩ := h
  refine ⟨i1, i2, i3, ?_, i4⟩
  have h3 : (D.txts (Raw.makes l)).length ≤ (D.tails (Raw.makes l)).length := by
    cases Raw.makes l with
    | nil => simp [D.txts]
    | cons d l => simp only [D.txts, D.tails, List.length_append, List.length_singleton]; omega
  omega

/-- a list's datum -/
theorem list_facts {l : List Raw} (h : Raw.cnts l ≤ 60) : (D.mk 4 [] [] (Raw.makes l) 0).ok ∧ (D.mk 4 [] [] (Raw.makes l) 0).size ≤ 61 ∧ (D.mk 4 [] [] (Raw.makes l) 0).txt.length ≤ 1862 ∧ (D.mk 4 [] [] (Raw.makes l) 0).small := by
  obtain ⟨i1, i2, i3, i4, i5⟩ := makes_facts l
  have := len_le_cnts l
  refine ⟨⟨by simp, i1⟩, by rw [D.size]; omega, ?_, ?_⟩
  · rw [D.txt, if_pos rfl]
    simp only [List.length_append, List.length_singleton]
    omega
  · rw [D.small, makes_len]
    exact ⟨by simp, by omega, i5 (by omega)⟩

theorem decide_not_true {p : Prop} [Decidable p] (h : p) : (!decide p) = false := by simp [h]

/-- DatumText -/
theorem law3 (l : List Raw) (hl : l.length ≤ 9223372036854775807) (hf : Raw.fits l) : Ret P2 3 [vRaws l] (.bool true) := by
  by_cases hfew : sizeR 21 l ≤ 60
  · have hc : Raw.cnts l ≤ 60 := by rw [← few_cnt 21 l hfew]; exact hfew
    obtain ⟨q1, q2, q3, q4⟩ := list_facts hc
    obtain ⟨i1, i2, i3, i4, i5⟩ := makes_facts l
    have hml := makes_len l
    have hlc := len_le_cnts l
    rw [D.oks_iff] at i1
    generalize hds : Raw.makes l = ds at *
    refine Ret.of rfl (code3 _ _) rfl rfl (fun H => by simp -implicitDefEqProofs only [↓v_lenS, SB, POp.val, AOp.val, WOp.val, Lite.bin, intBin, strBin, eqv, eqMany, eq1, AV.asBool, AV.asInt, AV.asNat, AV.asPtr, AV.asStr, resVals, ResV.val, oneOr, wants, skipped, fillAt, putAt, capOf, optNat, bnd, Nat.reduceBEq, reduceIte, Nat.reduceAdd, Nat.reduceLeDiff, Nat.reduceEqDiff, Nat.reduceSub, Nat.reduceMul, Nat.reduceDiv, SOper.again, same, sameBlk, sameCap, Nat.reduceBneDiff, s_draw2, s_pair, k_pair, asunder, SOper.into, Bool.not_false, Bool.not_true, shutV_vRaws]) ?_
    refine (known11.and ((few12 l hl hf).and ((all13 l (by omega)).and ((text14 _ q1 (by omega)).and ((size15 (.mk 4 [] [] ds 0) (by omega)).and ((Ev.all ds fun d hd => (text14 d (i1 d hd) (by
        obtain ⟨i, hi, rfl⟩ := List.getElem_of_mem hd
        have h1 := txts_take (List.getElem?_eq_getElem hi)
        have h2 := txts_take_len ds (i + 1)
        rw [h1, List.length_append] at h2
        omega)).and (size15 d (by have := size_mem hd; omega))).and (Ev.ge (ds.length + 1)))))))).mono fun n hn H => ?_
    obtain ⟨e11, e12, e13, et, es, ihn, hge⟩ := hn
    rw [hds] at e13
    rw [decide_eq_true hfew] at e12
    simp only [D.v_mk, vInts_nil] at et es
    generalize htx : (D.mk 4 [] [] ds 0).txt = tx at *
    generalize hsz : (D.mk 4 [] [] ds 0).size = sz at *
    rw [D.txt, if_pos rfl] at htx
    rw [D.size] at hsz
    simp -implicitDefEqProofs only [c3, ↓v_lenS, SB, POp.val, AOp.val, WOp.val, Lite.bin, intBin, strBin, eqv, eqMany, eq1, AV.asBool, AV.asInt, AV.asNat, AV.asPtr, AV.asStr, resVals, ResV.val, oneOr, wants, skipped, fillAt, putAt, capOf, optNat, bnd, Nat.reduceBEq, reduceIte, Nat.reduceAdd, Nat.reduceLeDiff, Nat.reduceEqDiff, Nat.reduceSub, Nat.reduceMul, Nat.reduceDiv, SOper.again, same, sameBlk, sameCap, Nat.reduceBneDiff, s_draw2, s_pair, k_pair, asunder, SOper.into, Bool.not_false, Bool.not_true, CL, e11, e12, shutV_vRaws, e13]
    refine loop_rounds ds.length (fun i fr H => fr 3 = .str ([40] ++ D.txts (ds.take i)) ∧ fr 4 = .int .i64 (1 + D.sizes (ds.take i) : Nat) ∧ fr 5 = vData ds ∧ fr 6 = .int .i64 i) ?_ ?_ n 0 _ _ (by omega) (by omega) ?_
    · rintro i fr H K' hi ⟨h3, h4, h5, h6⟩ hKe hKr hK
      obtain ⟨d, hd⟩ : ∃ d, ds[i]? = some d := ⟨ds[i], List.getElem?_eq_getElem hi⟩
      obtain ⟨e1, e2⟩ := ihn d (List.mem_of_getElem? hd)
      have hlt : (i : Int) < (ds.length : Int) := by omega
      have hw := wrap_succ hi (by omega)
      have ht := txts_take hd
      have htl := txts_take_len ds (i + 1)
      have hst := D.sizes_take hd
      have hsl := D.sizes_take_le ds (i + 1)
      have hw2 : IntKind.i64.wrap (((1 + D.sizes (ds.take i) : Nat) : Int) + (d.size : Int)) = ((1 + D.sizes (ds.take (i + 1)) : Nat) : Int) := by
        rw [wrap_nat (by omega)]
        congr 1; omega
      rw [ht, List.length_append, List.length_append] at htl
      by_cases hi0 : i = 0
      · subst hi0
        rw [if_pos rfl] at ht htl
        have hg : ¬ ((0 : Nat) : Int) > 0 := by omega
        have hf : ([40] ++ D.txts (ds.take 0)).length + d.txt.length ≤ 4611686018427387904 := by simp at htl ⊢; omega
        rw [ht] at hK
        simp only [List.take_zero, Nat.zero_add] at hw2
        generalize hS : [40] ++ D.txts (ds.take 0) = S at *
        obtain ⟨kd, td, md, ld, ad⟩ := d
        simp only [D.v_mk] at e1 e2
        simp -implicitDefEqProofs only [c3_l0, ↓v_lenS, SB, POp.val, AOp.val, WOp.val, Lite.bin, intBin, strBin, eqv, eqMany, eq1, AV.asBool, AV.asInt, AV.asNat, AV.asPtr, AV.asStr, resVals, ResV.val, oneOr, wants, skipped, fillAt, putAt, capOf, optNat, bnd, Nat.reduceBEq, reduceIte, Nat.reduceAdd, Nat.reduceLeDiff, Nat.reduceEqDiff, Nat.reduceSub, Nat.reduceMul, Nat.reduceDiv, SOper.again, same, sameBlk, sameCap, Nat.reduceBneDiff, s_draw2, s_pair, k_pair, asunder, SOper.into, Bool.not_false, Bool.not_true, CL, DS, h3, h4, h5, h6, hlt, iaddr_vData hd, e1, e2, hw, hg, hf, hw2]
        refine hK _ _ ?_
        rw [← hS]
        simp -implicitDefEqProofs only [↓v_lenS, SB, POp.val, AOp.val, WOp.val, Lite.bin, intBin, strBin, eqv, eqMany, eq1, AV.asBool, AV.asInt, AV.asNat, AV.asPtr, AV.asStr, resVals, ResV.val, oneOr, wants, skipped, fillAt, putAt, capOf, optNat, bnd, Nat.reduceBEq, reduceIte, Nat.reduceAdd, Nat.reduceLeDiff, Nat.reduceEqDiff, Nat.reduceSub, Nat.reduceMul, Nat.reduceDiv, SOper.again, same, sameBlk, sameCap, Nat.reduceBneDiff, s_draw2, s_pair, k_pair, asunder, SOper.into, Bool.not_false, Bool.not_true, h5, List.append_assoc]
      · rw [if_neg hi0] at ht htl
        simp only [List.length_singleton] at htl
        have hg : (i : Int) > 0 := by omega
        have hf0 : ([40] ++ D.txts (ds.take i)).length + 1 ≤ 4611686018427387904 := by simp only [List.length_append, List.length_singleton]; omega
        have hf : ([40] ++ D.txts (ds.take i)).length + 1 + d.txt.length ≤ 4611686018427387904 := by simp only [List.length_append, List.length_singleton]; omega
        rw [ht] at hK
        generalize hS : [40] ++ D.txts (ds.take i) = S at *
        obtain ⟨kd, td, md, ld, ad⟩ := d
        simp only [D.v_mk] at e1 e2
        simp -implicitDefEqProofs only [c3_l0, ↓v_lenS, SB, POp.val, AOp.val, WOp.val, Lite.bin, intBin, strBin, eqv, eqMany, eq1, AV.asBool, AV.asInt, AV.asNat, AV.asPtr, AV.asStr, resVals, ResV.val, oneOr, wants, skipped, fillAt, putAt, capOf, optNat, bnd, Nat.reduceBEq, reduceIte, Nat.reduceAdd, Nat.reduceLeDiff, Nat.reduceEqDiff, Nat.reduceSub, Nat.reduceMul, Nat.reduceDiv, SOper.again, same, sameBlk, sameCap, Nat.reduceBneDiff, s_draw2, s_pair, k_pair, asunder, SOper.into, Bool.not_false, Bool.not_true, CL, DS, h3, h4, h5, h6, hlt, iaddr_vData hd, e1, e2, hw, hg, hf, hf0, hw2, List.length_append]
        refine hK _ _ ?_
        rw [← hS]
        simp -implicitDefEqProofs only [↓v_lenS, SB, POp.val, AOp.val, WOp.val, Lite.bin, intBin, strBin, eqv, eqMany, eq1, AV.asBool, AV.asInt, AV.asNat, AV.asPtr, AV.asStr, resVals, ResV.val, oneOr, wants, skipped, fillAt, putAt, capOf, optNat, bnd, Nat.reduceBEq, reduceIte, Nat.reduceAdd, Nat.reduceLeDiff, Nat.reduceEqDiff, Nat.reduceSub, Nat.reduceMul, Nat.reduceDiv, SOper.again, same, sameBlk, sameCap, Nat.reduceBneDiff, s_draw2, s_pair, k_pair, asunder, SOper.into, Bool.not_false, Bool.not_true, h5, List.append_assoc]
    · rintro fr H K' ⟨h3, h4, h5, h6⟩ hKe hKr
      rw [List.take_length] at h3 h4
      have hf : ([40] ++ D.txts ds).length + 1 ≤ 4611686018427387904 := by simp only [List.length_append, List.length_singleton]; omega
      generalize hS : [40] ++ D.txts ds = S at *
      have ht : (tx == S ++ [41]) = true := by rw [← htx]; simp
      have hz : (((sz : Nat) : Int) == ((1 + D.sizes ds : Nat) : Int)) = true := by rw [← hsz]; simp
      simp -implicitDefEqProofs only [c3_l0, ↓v_lenS, SB, POp.val, AOp.val, WOp.val, Lite.bin, intBin, strBin, eqv, eqMany, eq1, AV.asBool, AV.asInt, AV.asNat, AV.asPtr, AV.asStr, resVals, ResV.val, oneOr, wants, skipped, fillAt, putAt, capOf, optNat, bnd, Nat.reduceBEq, reduceIte, Nat.reduceAdd, Nat.reduceLeDiff, Nat.reduceEqDiff, Nat.reduceSub, Nat.reduceMul, Nat.reduceDiv, SOper.again, same, sameBlk, sameCap, Nat.reduceBneDiff, s_draw2, s_pair, k_pair, asunder, SOper.into, Bool.not_false, Bool.not_true, CL, DS, h3, h4, h5, h6, Int.lt_irrefl, hKe, hf, et, es, ht, hz, gives_ret, Ends]
      exact ⟨_, rfl⟩
    · simp -implicitDefEqProofs only [↓v_lenS, SB, POp.val, AOp.val, WOp.val, Lite.bin, intBin, strBin, eqv, eqMany, eq1, AV.asBool, AV.asInt, AV.asNat, AV.asPtr, AV.asStr, resVals, ResV.val, oneOr, wants, skipped, fillAt, putAt, capOf, optNat, bnd, Nat.reduceBEq, reduceIte, Nat.reduceAdd, Nat.reduceLeDiff, Nat.reduceEqDiff, Nat.reduceSub, Nat.reduceMul, Nat.reduceDiv, SOper.again, same, sameBlk, sameCap, Nat.reduceBneDiff, s_draw2, s_pair, k_pair, asunder, SOper.into, Bool.not_false, Bool.not_true, List.take_zero, D.txts, D.sizes]
      exact ⟨rfl, rfl⟩
  · refine Ret.of rfl (code3 _ _) rfl rfl (fun H => by simp -implicitDefEqProofs only [↓v_lenS, SB, POp.val, AOp.val, WOp.val, Lite.bin, intBin, strBin, eqv, eqMany, eq1, AV.asBool, AV.asInt, AV.asNat, AV.asPtr, AV.asStr, resVals, ResV.val, oneOr, wants, skipped, fillAt, putAt, capOf, optNat, bnd, Nat.reduceBEq, reduceIte, Nat.reduceAdd, Nat.reduceLeDiff, Nat.reduceEqDiff, Nat.reduceSub, Nat.reduceMul, Nat.reduceDiv, SOper.again, same, sameBlk, sameCap, Nat.reduceBneDiff, s_draw2, s_pair, k_pair, asunder, SOper.into, Bool.not_false, Bool.not_true, shutV_vRaws]) ?_
    refine (known11.and (few12 l hl hf)).mono fun n hn H => ?_
    obtain ⟨e11, e12⟩ := hn
    rw [decide_eq_false hfew] at e12
    simp -implicitDefEqProofs only [c3, ↓v_lenS, SB, POp.val, AOp.val, WOp.val, Lite.bin, intBin, strBin, eqv, eqMany, eq1, AV.asBool, AV.asInt, AV.asNat, AV.asPtr, AV.asStr, resVals, ResV.val, oneOr, wants, skipped, fillAt, putAt, capOf, optNat, bnd, Nat.reduceBEq, reduceIte, Nat.reduceAdd, Nat.reduceLeDiff, Nat.reduceEqDiff, Nat.reduceSub, Nat.reduceMul, Nat.reduceDiv, SOper.again, same, sameBlk, sameCap, Nat.reduceBneDiff, s_draw2, s_pair, k_pair, asunder, SOper.into, Bool.not_false, Bool.not_true, CL, e11, e12, shutV_vRaws, Ends, gives_ret]
    exact ⟨_, rfl⟩

end Go.Lite
