/-
  Several texts in one: NText, NLawsD.
-/
import Derived.Test.YtlncgbcclmhicaaDoorQnC
import Derived.Test.YtlncgbcclmhicaaDoorQnB

/-
  A term's text.
-/
namespace Go.Lite
open Go Go.Proofs
set_option maxRecDepth 100000
set_option linter.unusedSimpArgs false
set_option linter.unusedVariables false

/-- texts, parted by blanks -/
def joinT : List Str → Str
  | [] => []
  | s :: l => s ++ l.flatMap fun r => 32 :: r

theorem joinT_take {l : List Str} {i : Nat} {s : Str} (h : l[i]? = some s) : joinT (l.take (i + 1)) = joinT (l.take i) ++ (if i = 0 then s else 32 :: s) := by
  cases l with
  | nil => simp at h
  | cons x l =>
    cases i with
    | zero =>
      simp only [List.getElem?_cons_zero, Option.some.injEq] at h
      subst h
      simp [joinT]
    | succ i =>
      simp only [List.getElem?_cons_succ] at h
      rw [List.take_succ_cons, List.take_succ_cons, List.take_add_one, h, Option.toList_some, joinT, joinT, List.flatMap_append, List.append_assoc]
      simp

theorem joinT_take_len (l : List Str) (i : Nat) : (joinT (l.take i)).length ≤ (joinT l).length := by
  cases l with
  | nil => simp
  | cons x l =>
    cases i with
    | zero => simp [joinT]
    | succ i =>
      rw [List.take_succ_cons, joinT, joinT, List.length_append, List.length_append]
      conv => rhs; rw [← List.take_append_drop i l, List.flatMap_append, List.length_append]
      omega

theorem names28 (ns : List Str) (hn : ns.length ≤ 1048576) (hl : (joinT ns).length ≤ 1000000) : Ret P3 28 [vStrs ns] (.str (joinT ns)) := by
  refine Ret.of rfl (code28 _ _) rfl rfl (fun H => by simp -implicitDefEqProofs only [↓v_lenS, SB, POp.val, AOp.val, WOp.val, Lite.bin, intBin, strBin, eqv, eqMany, eq1, AV.asBool, AV.asInt, AV.asNat, AV.asPtr, AV.asStr, resVals, ResV.val, oneOr, wants, skipped, fillAt, putAt, capOf, optNat, bnd, Nat.reduceBEq, reduceIte, Nat.reduceAdd, Nat.reduceLeDiff, Nat.reduceEqDiff, Nat.reduceSub, Nat.reduceMul, Nat.reduceDiv, SOper.again, same, sameBlk, sameCap, Nat.reduceBneDiff, s_draw2, s_pair, k_pair, asunder, SOper.into, Bool.not_false, Bool.not_true, XS]) ?_
  refine (Ev.ge (ns.length + 1)).mono fun n hge H => ?_
  simp -implicitDefEqProofs only [c28, ↓v_lenS, SB, POp.val, AOp.val, WOp.val, Lite.bin, intBin, strBin, eqv, eqMany, eq1, AV.asBool, AV.asInt, AV.asNat, AV.asPtr, AV.asStr, resVals, ResV.val, oneOr, wants, skipped, fillAt, putAt, capOf, optNat, bnd, Nat.reduceBEq, reduceIte, Nat.reduceAdd, Nat.reduceLeDiff, Nat.reduceEqDiff, Nat.reduceSub, Nat.reduceMul, Nat.reduceDiv, SOper.again, same, sameBlk, sameCap, Nat.reduceBneDiff, s_draw2, s_pair, k_pair, asunder, SOper.into, Bool.not_false, Bool.not_true, CL, XS]
  refine loop_rounds ns.length (fun i fr H => fr 0 = vStrs ns ∧ fr 3 = .str (joinT (ns.take i)) ∧ fr 4 = .int .i64 i) ?_ ?_ n 0 _ _ (by omega) (by omega) ?_
  · rintro i fr H K' hi ⟨h0, h3, h4⟩ hKe hKr hK
    obtain ⟨s, hs⟩ : ∃ s, ns[i]? = some s := ⟨ns[i], List.getElem?_eq_getElem hi⟩
    have hlt : (i : Int) < (ns.length : Int) := by omega
    have hw := wrap_succ hi (by omega)
    have hj := joinT_take hs
    have hjl := joinT_take_len ns (i + 1)
    rw [hj, List.length_append] at hjl
    by_cases hi0 : i = 0
    · rw [if_pos hi0] at hj hjl
      have hg : ¬ (i : Int) > 0 := by omega
      have hb : (joinT (ns.take i)).length + s.length ≤ 4611686018427387904 := by omega
      simp -implicitDefEqProofs only [c28_l0, ↓v_lenS, SB, POp.val, AOp.val, WOp.val, Lite.bin, intBin, strBin, eqv, eqMany, eq1, AV.asBool, AV.asInt, AV.asNat, AV.asPtr, AV.asStr, resVals, ResV.val, oneOr, wants, skipped, fillAt, putAt, capOf, optNat, bnd, Nat.reduceBEq, reduceIte, Nat.reduceAdd, Nat.reduceLeDiff, Nat.reduceEqDiff, Nat.reduceSub, Nat.reduceMul, Nat.reduceDiv, SOper.again, same, sameBlk, sameCap, Nat.reduceBneDiff, s_draw2, s_pair, k_pair, asunder, SOper.into, Bool.not_false, Bool.not_true, CL, XS, h0, h3, h4, hlt, hg, iaddr_vStrs hs, hb, hw]
      refine hK _ _ ?_
      simp -implicitDefEqProofs only [↓v_lenS, SB, POp.val, AOp.val, WOp.val, Lite.bin, intBin, strBin, eqv, eqMany, eq1, AV.asBool, AV.asInt, AV.asNat, AV.asPtr, AV.asStr, resVals, ResV.val, oneOr, wants, skipped, fillAt, putAt, capOf, optNat, bnd, Nat.reduceBEq, reduceIte, Nat.reduceAdd, Nat.reduceLeDiff, Nat.reduceEqDiff, Nat.reduceSub, Nat.reduceMul, Nat.reduceDiv, SOper.again, same, sameBlk, sameCap, Nat.reduceBneDiff, s_draw2, s_pair, k_pair, asunder, SOper.into, Bool.not_false, Bool.not_true, h0, hj]
    · rw [if_neg hi0, List.length_cons] at hjl
      rw [if_neg hi0] at hj
      have hg : (i : Int) > 0 := by omega
      have hb1 : (joinT (ns.take i)).length + 1 ≤ 4611686018427387904 := by omega
      have hb : (joinT (ns.take i) ++ [32]).length + s.length ≤ 4611686018427387904 := by rw [List.length_append, List.length_singleton]; omega
      have hj' : joinT (ns.take i) ++ [32] ++ s = joinT (ns.take (i + 1)) := by rw [hj]; simp
      generalize joinT (ns.take i) = T at *
      generalize hT : T ++ [32] = T2 at *
      simp -implicitDefEqProofs only [c28_l0, ↓v_lenS, SB, POp.val, AOp.val, WOp.val, Lite.bin, intBin, strBin, eqv, eqMany, eq1, AV.asBool, AV.asInt, AV.asNat, AV.asPtr, AV.asStr, resVals, ResV.val, oneOr, wants, skipped, fillAt, putAt, capOf, optNat, bnd, Nat.reduceBEq, reduceIte, Nat.reduceAdd, Nat.reduceLeDiff, Nat.reduceEqDiff, Nat.reduceSub, Nat.reduceMul, Nat.reduceDiv, SOper.again, same, sameBlk, sameCap, Nat.reduceBneDiff, s_draw2, s_pair, k_pair, asunder, SOper.into, Bool.not_false, Bool.not_true, CL, XS, h0, h3, h4, hlt, hg, iaddr_vStrs hs, hb, hb1, hT, hw]
      refine hK _ _ ?_
      simp -implicitDefEqProofs only [↓v_lenS, SB, POp.val, AOp.val, WOp.val, Lite.bin, intBin, strBin, eqv, eqMany, eq1, AV.asBool, AV.asInt, AV.asNat, AV.asPtr, AV.asStr, resVals, ResV.val, oneOr, wants, skipped, fillAt, putAt, capOf, optNat, bnd, Nat.reduceBEq, reduceIte, Nat.reduceAdd, Nat.reduceLeDiff, Nat.reduceEqDiff, Nat.reduceSub, Nat.reduceMul, Nat.reduceDiv, SOper.again, same, sameBlk, sameCap, Nat.reduceBneDiff, s_draw2, s_pair, k_pair, asunder, SOper.into, Bool.not_false, Bool.not_true, h0, hj']
  · rintro fr H K' ⟨h0, h3, h4⟩ hKe hKr
    rw [List.take_length] at h3
    simp -implicitDefEqProofs only [c28_l0, ↓v_lenS, SB, POp.val, AOp.val, WOp.val, Lite.bin, intBin, strBin, eqv, eqMany, eq1, AV.asBool, AV.asInt, AV.asNat, AV.asPtr, AV.asStr, resVals, ResV.val, oneOr, wants, skipped, fillAt, putAt, capOf, optNat, bnd, Nat.reduceBEq, reduceIte, Nat.reduceAdd, Nat.reduceLeDiff, Nat.reduceEqDiff, Nat.reduceSub, Nat.reduceMul, Nat.reduceDiv, SOper.again, same, sameBlk, sameCap, Nat.reduceBneDiff, s_draw2, s_pair, k_pair, asunder, SOper.into, Bool.not_false, Bool.not_true, XS, h0, h3, h4, Int.lt_irrefl, hKe, Ends, gives_ret]
    exact ⟨_, rfl⟩
  · simp -implicitDefEqProofs only [↓v_lenS, SB, POp.val, AOp.val, WOp.val, Lite.bin, intBin, strBin, eqv, eqMany, eq1, AV.asBool, AV.asInt, AV.asNat, AV.asPtr, AV.asStr, resVals, ResV.val, oneOr, wants, skipped, fillAt, putAt, capOf, optNat, bnd, Nat.reduceBEq, reduceIte, Nat.reduceAdd, Nat.reduceLeDiff, Nat.reduceEqDiff, Nat.reduceSub, Nat.reduceMul, Nat.reduceDiv, SOper.again, same, sameBlk, sameCap, Nat.reduceBneDiff, s_draw2, s_pair, k_pair, asunder, SOper.into, Bool.not_false, Bool.not_true]
    exact ⟨rfl, rfl⟩

def letT (s v : Str) : Str := [40] ++ s ++ [32] ++ v ++ [41]

/-- a term's text, of its parts' -/
def txtOf (k : Int) (t : Str) (ns ls : List Str) : Str :=
  if k = 3 then [40, 41] else if k = 4 then 39 :: t
  else if k = 6 then [40, 108, 97, 109, 98, 100, 97, 32, 40] ++ joinT ns ++ [41, 32] ++ ls.headD [] ++ [41]
  else if k = 8 then [40, 105, 102, 32] ++ joinT ls ++ [41]
  else if k = 9 then [40, 108, 101, 116, 32, 40] ++ joinT (List.zipWith letT ns ls) ++ [41, 32] ++ ls.getD ns.length [] ++ [41]
  else if k = 10 then [40] ++ t ++ [32] ++ joinT ls ++ [41]
  else if k = 7 then [40] ++ joinT ls ++ [41]
  else t

mutual
def X.txt : X → Str
  | .mk k t ns l => txtOf k t ns (X.txts l)
def X.txts : List X → List Str
  | [] => []
  | x :: l => x.txt :: X.txts l
end
theorem txts_map (l : List X) : X.txts l = l.map X.txt := by
  induction l with
  | nil => rfl
  | cons x l ih => rw [X.txts, ih]; rfl

theorem row44 (l : List X) (hn : l.length ≤ 60) (hl : (joinT (X.txts l)).length ≤ 1000000) (ih : ∀ x ∈ l, Ret P3 26 [x.v] (.str x.txt)) : Ret P3 44 [vXs l] (.str (joinT (X.txts l))) := by
  refine Ret.of rfl (code44 _ _) rfl rfl (fun H => by simp -implicitDefEqProofs only [↓v_lenS, SB, POp.val, AOp.val, WOp.val, Lite.bin, intBin, strBin, eqv, eqMany, eq1, AV.asBool, AV.asInt, AV.asNat, AV.asPtr, AV.asStr, resVals, ResV.val, oneOr, wants, skipped, fillAt, putAt, capOf, optNat, bnd, Nat.reduceBEq, reduceIte, Nat.reduceAdd, Nat.reduceLeDiff, Nat.reduceEqDiff, Nat.reduceSub, Nat.reduceMul, Nat.reduceDiv, SOper.again, same, sameBlk, sameCap, Nat.reduceBneDiff, s_draw2, s_pair, k_pair, asunder, SOper.into, Bool.not_false, Bool.not_true, XS]) ?_
  refine ((Ev.all l ih).and (Ev.ge (l.length + 1))).mono fun n hn' H => ?_
  obtain ⟨ihn, hge⟩ := hn'
  simp -implicitDefEqProofs only [c44, ↓v_lenS, SB, POp.val, AOp.val, WOp.val, Lite.bin, intBin, strBin, eqv, eqMany, eq1, AV.asBool, AV.asInt, AV.asNat, AV.asPtr, AV.asStr, resVals, ResV.val, oneOr, wants, skipped, fillAt, putAt, capOf, optNat, bnd, Nat.reduceBEq, reduceIte, Nat.reduceAdd, Nat.reduceLeDiff, Nat.reduceEqDiff, Nat.reduceSub, Nat.reduceMul, Nat.reduceDiv, SOper.again, same, sameBlk, sameCap, Nat.reduceBneDiff, s_draw2, s_pair, k_pair, asunder, SOper.into, Bool.not_false, Bool.not_true, CL, XS]
  refine loop_rounds l.length (fun i fr H => fr 0 = vXs l ∧ fr 3 = .str (joinT ((X.txts l).take i)) ∧ fr 4 = .int .i64 i) ?_ ?_ n 0 _ _ (by omega) (by omega) ?_
  · rintro i fr H K' hi ⟨h0, h3, h4⟩ hKe hKr hK
    obtain ⟨x, hx⟩ : ∃ x, l[i]? = some x := ⟨l[i], List.getElem?_eq_getElem hi⟩
    have e1 := ihn x (List.mem_of_getElem? hx)
    have hs : (X.txts l)[i]? = some x.txt := by rw [txts_map, List.getElem?_map, hx]; rfl
    have hlt : (i : Int) < (l.length : Int) := by omega
    have hw := wrap_succ hi (by omega)
    have hj := joinT_take hs
    have hjl := joinT_take_len (X.txts l) (i + 1)
    rw [hj, List.length_append] at hjl
    generalize x.txt = s at *
    obtain ⟨kx, tx, nx, lx⟩ := x
    rw [X.v_mk] at e1
    by_cases hi0 : i = 0
    · rw [if_pos hi0] at hj hjl
      have hg : ¬ (i : Int) > 0 := by omega
      have hb : (joinT ((X.txts l).take i)).length + s.length ≤ 4611686018427387904 := by omega
      simp -implicitDefEqProofs only [c44_l0, ↓v_lenS, SB, POp.val, AOp.val, WOp.val, Lite.bin, intBin, strBin, eqv, eqMany, eq1, AV.asBool, AV.asInt, AV.asNat, AV.asPtr, AV.asStr, resVals, ResV.val, oneOr, wants, skipped, fillAt, putAt, capOf, optNat, bnd, Nat.reduceBEq, reduceIte, Nat.reduceAdd, Nat.reduceLeDiff, Nat.reduceEqDiff, Nat.reduceSub, Nat.reduceMul, Nat.reduceDiv, SOper.again, same, sameBlk, sameCap, Nat.reduceBneDiff, s_draw2, s_pair, k_pair, asunder, SOper.into, Bool.not_false, Bool.not_true, CL, XS, h0, h3, h4, hlt, hg, iaddr_vXs hx, e1, hb, hw]
      refine hK _ _ ?_
      simp -implicitDefEqProofs only [↓v_lenS, SB, POp.val, AOp.val, WOp.val, Lite.bin, intBin, strBin, eqv, eqMany, eq1, AV.asBool, AV.asInt, AV.asNat, AV.asPtr, AV.asStr, resVals, ResV.val, oneOr, wants, skipped, fillAt, putAt, capOf, optNat, bnd, Nat.reduceBEq, reduceIte, Nat.reduceAdd, Nat.reduceLeDiff, Nat.reduceEqDiff, Nat.reduceSub, Nat.reduceMul, Nat.reduceDiv, SOper.again, same, sameBlk, sameCap, Nat.reduceBneDiff, s_draw2, s_pair, k_pair, asunder, SOper.into, Bool.not_false, Bool.not_true, h0, hj]
    · rw [if_neg hi0, List.length_cons] at hjl
      rw [if_neg hi0] at hj
      have hg : (i : Int) > 0 := by omega
      have hb1 : (joinT ((X.txts l).take i)).length + 1 ≤ 4611686018427387904 := by omega
      have hb : (joinT ((X.txts l).take i) ++ [32]).length + s.length ≤ 4611686018427387904 := by rw [List.length_append, List.length_singleton]; omega
      have hj' : joinT ((X.txts l).take i) ++ [32] ++ s = joinT ((X.txts l).take (i + 1)) := by rw [hj]; simp
      generalize joinT ((X.txts l).take i) = T at *
      generalize hT : T ++ [32] = T2 at *
      simp -implicitDefEqProofs only [c44_l0, ↓v_lenS, SB, POp.val, AOp.val, WOp.val, Lite.bin, intBin, strBin, eqv, eqMany, eq1, AV.asBool, AV.asInt, AV.asNat, AV.asPtr, AV.asStr, resVals, ResV.val, oneOr, wants, skipped, fillAt, putAt, capOf, optNat, bnd, Nat.reduceBEq, reduceIte, Nat.reduceAdd, Nat.reduceLeDiff, Nat.reduceEqDiff, Nat.reduceSub, Nat.reduceMul, Nat.reduceDiv, SOper.again, same, sameBlk, sameCap, Nat.reduceBneDiff, s_draw2, s_pair, k_pair, asunder, SOper.into, Bool.not_false, Bool.not_true, CL, XS, h0, h3, h4, hlt, hg, iaddr_vXs hx, e1, hb, hb1, hT, hw]
      refine hK _ _ ?_
      simp -implicitDefEqProofs only [↓v_lenS, SB, POp.val, AOp.val, WOp.val, Lite.bin, intBin, strBin, eqv, eqMany, eq1, AV.asBool, AV.asInt, AV.asNat, AV.asPtr, AV.asStr, resVals, ResV.val, oneOr, wants, skipped, fillAt, putAt, capOf, optNat, bnd, Nat.reduceBEq, reduceIte, Nat.reduceAdd, Nat.reduceLeDiff, Nat.reduceEqDiff, Nat.reduceSub, Nat.reduceMul, Nat.reduceDiv, SOper.again, same, sameBlk, sameCap, Nat.reduceBneDiff, s_draw2, s_pair, k_pair, asunder, SOper.into, Bool.not_false, Bool.not_true, h0, hj']
  · rintro fr H K' ⟨h0, h3, h4⟩ hKe hKr
    rw [List.take_of_length_le (by rw [txts_map, List.length_map]; exact Nat.le_refl _)] at h3
    simp -implicitDefEqProofs only [c44_l0, ↓v_lenS, SB, POp.val, AOp.val, WOp.val, Lite.bin, intBin, strBin, eqv, eqMany, eq1, AV.asBool, AV.asInt, AV.asNat, AV.asPtr, AV.asStr, resVals, ResV.val, oneOr, wants, skipped, fillAt, putAt, capOf, optNat, bnd, Nat.reduceBEq, reduceIte, Nat.reduceAdd, Nat.reduceLeDiff, Nat.reduceEqDiff, Nat.reduceSub, Nat.reduceMul, Nat.reduceDiv, SOper.again, same, sameBlk, sameCap, Nat.reduceBneDiff, s_draw2, s_pair, k_pair, asunder, SOper.into, Bool.not_false, Bool.not_true, XS, h0, h3, h4, Int.lt_irrefl, hKe, Ends, gives_ret]
    exact ⟨_, rfl⟩
  · simp -implicitDefEqProofs only [↓v_lenS, SB, POp.val, AOp.val, WOp.val, Lite.bin, intBin, strBin, eqv, eqMany, eq1, AV.asBool, AV.asInt, AV.asNat, AV.asPtr, AV.asStr, resVals, ResV.val, oneOr, wants, skipped, fillAt, putAt, capOf, optNat, bnd, Nat.reduceBEq, reduceIte, Nat.reduceAdd, Nat.reduceLeDiff, Nat.reduceEqDiff, Nat.reduceSub, Nat.reduceMul, Nat.reduceDiv, SOper.again, same, sameBlk, sameCap, Nat.reduceBneDiff, s_draw2, s_pair, k_pair, asunder, SOper.into, Bool.not_false, Bool.not_true]
    exact ⟨rfl, rfl⟩

theorem mem_joinT {l : List Str} {s : Str} (h : s ∈ l) : s.length ≤ (joinT l).length := by
  cases l with
  | nil => cases h
  | cons x l =>
    rw [joinT, List.length_append]
    rcases List.mem_cons.1 h with rfl | h
    · omega
    · have : ∀ l : List Str, s ∈ l → s.length ≤ (l.flatMap fun r => 32 :: r).length := by
        intro l
        induction l with
        | nil => intro h; cases h
        | cons y l ih =>
          intro h
          rw [List.flatMap_cons, List.length_append, List.length_cons]
          rcases List.mem_cons.1 h with rfl | h
          · omega
          · have := ih h; omega
      have := this l h
      omega

set_option maxHeartbeats 2000000 in
theorem text26 : ∀ x : X, x.right → x.fit → x.txt.length ≤ 1000000 → Ret P3 26 [x.v] (.str x.txt) := X.indA fun k t ns l ih hr hf hlen => by
  obtain ⟨r1, r2, r3⟩ := hr
  have r3 := (rights_iff l).1 r3
  obtain ⟨f1, f2, f3⟩ := hf
  have f3 := (X.fits_iff l).1 f3
  rw [X.txt] at hlen ⊢
  refine Ret.of rfl (code26 _ _) rfl rfl (fun H => by simp -implicitDefEqProofs only [mapHM_nil, mapHM_cons, X.shut, Option.bind_some, Option.map_some]) ?_
  have rowOk : (joinT (X.txts l)).length ≤ 1000000 → Ret P3 44 [vXs l] (.str (joinT (X.txts l))) := fun h => row44 l f2 h fun x hx => ih x hx (r3 x hx) (f3 x hx) (Nat.le_trans (mem_joinT (by rw [txts_map]; exact List.mem_map_of_mem hx)) h)
  have lim : ∀ a b : Nat, a ≤ 2000000 → b ≤ 2000000 → a + b ≤ 4611686018427387904 := fun a b h1 h2 => by omega
  rcases r1 with ⟨rfl, ht, h1, h2⟩ | ⟨rfl, ht, h1, h2⟩ | ⟨rfl, ht, h1, h2⟩ | ⟨rfl, ht, h1, h2⟩ | ⟨rfl, ht, h1, h2⟩ | ⟨rfl, ht, h1, h2⟩ | ⟨rfl, ht, h1, h2⟩ | ⟨rfl, ht, h1, h2⟩ | ⟨rfl, ht, h1, h2⟩ | ⟨rfl, h0, h1, h2⟩
  · refine Ev.of fun n H => ?_
    have hT : txtOf 1 t ns (X.txts l) = t := rfl
    rw [hT]
    simp -implicitDefEqProofs only [c26, ↓v_lenS, SB, POp.val, AOp.val, WOp.val, Lite.bin, intBin, strBin, eqv, eqMany, eq1, AV.asBool, AV.asInt, AV.asNat, AV.asPtr, AV.asStr, resVals, ResV.val, oneOr, wants, skipped, fillAt, putAt, capOf, optNat, bnd, Nat.reduceBEq, reduceIte, Nat.reduceAdd, Nat.reduceLeDiff, Nat.reduceEqDiff, Nat.reduceSub, Nat.reduceMul, Nat.reduceDiv, SOper.again, same, sameBlk, sameCap, Nat.reduceBneDiff, s_draw2, s_pair, k_pair, asunder, SOper.into, Bool.not_false, Bool.not_true, CL, XS, Int.reduceBEq, Ends, gives_ret]
    exact ⟨_, rfl⟩
  · refine Ev.of fun n H => ?_
    have hT : txtOf 2 t ns (X.txts l) = t := rfl
    rw [hT]
    simp -implicitDefEqProofs only [c26, ↓v_lenS, SB, POp.val, AOp.val, WOp.val, Lite.bin, intBin, strBin, eqv, eqMany, eq1, AV.asBool, AV.asInt, AV.asNat, AV.asPtr, AV.asStr, resVals, ResV.val, oneOr, wants, skipped, fillAt, putAt, capOf, optNat, bnd, Nat.reduceBEq, reduceIte, Nat.reduceAdd, Nat.reduceLeDiff, Nat.reduceEqDiff, Nat.reduceSub, Nat.reduceMul, Nat.reduceDiv, SOper.again, same, sameBlk, sameCap, Nat.reduceBneDiff, s_draw2, s_pair, k_pair, asunder, SOper.into, Bool.not_false, Bool.not_true, CL, XS, Int.reduceBEq, Ends, gives_ret]
    exact ⟨_, rfl⟩
  · refine Ev.of fun n H => ?_
    have hT : txtOf 3 t ns (X.txts l) = [40, 41] := rfl
    rw [hT]
    simp -implicitDefEqProofs only [c26, ↓v_lenS, SB, POp.val, AOp.val, WOp.val, Lite.bin, intBin, strBin, eqv, eqMany, eq1, AV.asBool, AV.asInt, AV.asNat, AV.asPtr, AV.asStr, resVals, ResV.val, oneOr, wants, skipped, fillAt, putAt, capOf, optNat, bnd, Nat.reduceBEq, reduceIte, Nat.reduceAdd, Nat.reduceLeDiff, Nat.reduceEqDiff, Nat.reduceSub, Nat.reduceMul, Nat.reduceDiv, SOper.again, same, sameBlk, sameCap, Nat.reduceBneDiff, s_draw2, s_pair, k_pair, asunder, SOper.into, Bool.not_false, Bool.not_true, CL, XS, Int.reduceBEq, Ends, gives_ret]
    exact ⟨_, rfl⟩
  · refine Ev.of fun n H => ?_
    have hT : txtOf 4 t ns (X.txts l) = 39 :: t := rfl
    rw [hT, List.length_cons] at hlen
    rw [hT]
    have hb : 1 + t.length ≤ 4611686018427387904 := by omega
    simp -implicitDefEqProofs only [c26, ↓v_lenS, SB, POp.val, AOp.val, WOp.val, Lite.bin, intBin, strBin, eqv, eqMany, eq1, AV.asBool, AV.asInt, AV.asNat, AV.asPtr, AV.asStr, resVals, ResV.val, oneOr, wants, skipped, fillAt, putAt, capOf, optNat, bnd, Nat.reduceBEq, reduceIte, Nat.reduceAdd, Nat.reduceLeDiff, Nat.reduceEqDiff, Nat.reduceSub, Nat.reduceMul, Nat.reduceDiv, SOper.again, same, sameBlk, sameCap, Nat.reduceBneDiff, s_draw2, s_pair, k_pair, asunder, SOper.into, Bool.not_false, Bool.not_true, CL, XS, Int.reduceBEq, hb, Ends, gives_ret]
    exact ⟨_, rfl⟩
  · refine Ev.of fun n H => ?_
    have hT : txtOf 5 t ns (X.txts l) = t := rfl
    rw [hT]
    simp -implicitDefEqProofs only [c26, ↓v_lenS, SB, POp.val, AOp.val, WOp.val, Lite.bin, intBin, strBin, eqv, eqMany, eq1, AV.asBool, AV.asInt, AV.asNat, AV.asPtr, AV.asStr, resVals, ResV.val, oneOr, wants, skipped, fillAt, putAt, capOf, optNat, bnd, Nat.reduceBEq, reduceIte, Nat.reduceAdd, Nat.reduceLeDiff, Nat.reduceEqDiff, Nat.reduceSub, Nat.reduceMul, Nat.reduceDiv, SOper.again, same, sameBlk, sameCap, Nat.reduceBneDiff, s_draw2, s_pair, k_pair, asunder, SOper.into, Bool.not_false, Bool.not_true, CL, XS, Int.reduceBEq, Ends, gives_ret]
    exact ⟨_, rfl⟩
  · obtain ⟨x, rfl⟩ : ∃ x, l = [x] := by
      match l, h2 with
      | [x], _ => exact ⟨x, rfl⟩
    have hT : txtOf 6 t ns (X.txts [x]) = [40, 108, 97, 109, 98, 100, 97, 32, 40] ++ joinT ns ++ [41, 32] ++ x.txt ++ [41] := rfl
    rw [hT] at hlen ⊢
    simp only [List.length_append, List.length_cons, List.length_nil] at hlen
    refine ((names28 ns (by omega) (by omega)).and (ih x (by simp) (r3 x (by simp)) (f3 x (by simp)) (by omega))).mono fun n hn H => ?_
    obtain ⟨e1, e2⟩ := hn
    generalize x.txt = X1 at *
    obtain ⟨kx, tx, nx, lx⟩ := x
    rw [X.v_mk] at e2
    have hx0 : [X.mk kx tx nx lx][0]? = some (X.mk kx tx nx lx) := rfl
    generalize joinT ns = J at *
    have b1 : ([40, 108, 97, 109, 98, 100, 97, 32, 40] : Str).length + J.length ≤ 4611686018427387904 := by simp only [List.length_cons, List.length_nil]; omega
    have b2 : ([40, 108, 97, 109, 98, 100, 97, 32, 40] ++ J).length + ([41, 32] : Str).length ≤ 4611686018427387904 := by simp only [List.length_append, List.length_cons, List.length_nil]; omega
    have b3 : ([40, 108, 97, 109, 98, 100, 97, 32, 40] ++ J ++ [41, 32]).length + X1.length ≤ 4611686018427387904 := by simp only [List.length_append, List.length_cons, List.length_nil]; omega
    have b4 : ([40, 108, 97, 109, 98, 100, 97, 32, 40] ++ J ++ [41, 32] ++ X1).length + ([41] : Str).length ≤ 4611686018427387904 := by simp only [List.length_append, List.length_cons, List.length_nil]; omega
    generalize hA : ([40, 108, 97, 109, 98, 100, 97, 32, 40] : Str) = A at *
    generalize hB : ([41, 32] : Str) = B at *
    generalize hC : ([41] : Str) = C at *
    generalize h01 : A ++ J = S1 at *
    generalize h02 : S1 ++ B = S2 at *
    generalize h03 : S2 ++ X1 = S3 at *
    simp -implicitDefEqProofs only [c26, hA, hB, hC, ↓v_lenS, SB, POp.val, AOp.val, WOp.val, Lite.bin, intBin, strBin, eqv, eqMany, eq1, AV.asBool, AV.asInt, AV.asNat, AV.asPtr, AV.asStr, resVals, ResV.val, oneOr, wants, skipped, fillAt, putAt, capOf, optNat, bnd, Nat.reduceBEq, reduceIte, Nat.reduceAdd, Nat.reduceLeDiff, Nat.reduceEqDiff, Nat.reduceSub, Nat.reduceMul, Nat.reduceDiv, SOper.again, same, sameBlk, sameCap, Nat.reduceBneDiff, s_draw2, s_pair, k_pair, asunder, SOper.into, Bool.not_false, Bool.not_true, CL, XS, Int.reduceBEq, Int.toNat_zero, Int.le_refl, iaddr_vXs hx0, e1, e2, b1, b2, b3, b4, h01, h02, h03, Ends, gives_ret]
    exact ⟨_, rfl⟩
  · have hT : txtOf 7 t ns (X.txts l) = [40] ++ joinT (X.txts l) ++ [41] := rfl
    rw [hT] at hlen ⊢
    simp only [List.length_append, List.length_cons, List.length_nil] at hlen
    refine (rowOk (by omega)).mono fun n e1 H => ?_
    generalize joinT (X.txts l) = J at *
    have b1 : 1 + J.length ≤ 4611686018427387904 := by omega
    have b2 : ([40] ++ J).length + 1 ≤ 4611686018427387904 := by simp only [List.length_append, List.length_cons, List.length_nil]; omega
    generalize h01 : [40] ++ J = S1 at *
    simp -implicitDefEqProofs only [c26, ↓h01, ↓v_lenS, SB, POp.val, AOp.val, WOp.val, Lite.bin, intBin, strBin, eqv, eqMany, eq1, AV.asBool, AV.asInt, AV.asNat, AV.asPtr, AV.asStr, resVals, ResV.val, oneOr, wants, skipped, fillAt, putAt, capOf, optNat, bnd, Nat.reduceBEq, reduceIte, Nat.reduceAdd, Nat.reduceLeDiff, Nat.reduceEqDiff, Nat.reduceSub, Nat.reduceMul, Nat.reduceDiv, SOper.again, same, sameBlk, sameCap, Nat.reduceBneDiff, s_draw2, s_pair, k_pair, asunder, SOper.into, Bool.not_false, Bool.not_true, CL, XS, Int.reduceBEq, e1, b1, b2, Ends, gives_ret]
    exact ⟨_, rfl⟩
  · have hT : txtOf 8 t ns (X.txts l) = [40, 105, 102, 32] ++ joinT (X.txts l) ++ [41] := rfl
    rw [hT] at hlen ⊢
    simp only [List.length_append, List.length_cons, List.length_nil] at hlen
    refine (rowOk (by omega)).mono fun n e1 H => ?_
    generalize joinT (X.txts l) = J at *
    have b1 : ([40, 105, 102, 32] : Str).length + J.length ≤ 4611686018427387904 := by simp only [List.length_append, List.length_cons, List.length_nil]; omega
    have b2 : ([40, 105, 102, 32] ++ J).length + ([41] : Str).length ≤ 4611686018427387904 := by simp only [List.length_append, List.length_cons, List.length_nil]; omega
    generalize hA : ([40, 105, 102, 32] : Str) = A at *
    generalize hC : ([41] : Str) = C at *
    generalize h01 : A ++ J = S1 at *
    simp -implicitDefEqProofs only [c26, hA, hC, h01, ↓v_lenS, SB, POp.val, AOp.val, WOp.val, Lite.bin, intBin, strBin, eqv, eqMany, eq1, AV.asBool, AV.asInt, AV.asNat, AV.asPtr, AV.asStr, resVals, ResV.val, oneOr, wants, skipped, fillAt, putAt, capOf, optNat, bnd, Nat.reduceBEq, reduceIte, Nat.reduceAdd, Nat.reduceLeDiff, Nat.reduceEqDiff, Nat.reduceSub, Nat.reduceMul, Nat.reduceDiv, SOper.again, same, sameBlk, sameCap, Nat.reduceBneDiff, s_draw2, s_pair, k_pair, asunder, SOper.into, Bool.not_false, Bool.not_true, CL, XS, Int.reduceBEq, e1, b1, b2, Ends, gives_ret]
    exact ⟨_, rfl⟩
  · have hT : txtOf 9 t ns (X.txts l) = [40, 108, 101, 116, 32, 40] ++ joinT (List.zipWith letT ns (X.txts l)) ++ [41, 32] ++ (X.txts l).getD ns.length [] ++ [41] := rfl
    rw [hT] at hlen ⊢
    simp only [List.length_append, List.length_cons, List.length_nil] at hlen
    obtain ⟨y, hy⟩ : ∃ y, l[ns.length]? = some y := ⟨l[ns.length], List.getElem?_eq_getElem (by omega)⟩
    have hyT : (X.txts l).getD ns.length [] = y.txt := by rw [txts_map, List.getD_eq_getElem?_getD, List.getElem?_map, hy]; rfl
    rw [hyT] at hlen ⊢
    have hym := List.mem_of_getElem? hy
    have hzl : (List.zipWith letT ns (X.txts l)).length = ns.length := by rw [List.length_zipWith, txts_map, List.length_map]; omega
    have hz : ∀ (i : Nat) (a : Str) (x : X), ns[i]? = some a → l[i]? = some x → (List.zipWith letT ns (X.txts l))[i]? = some (letT a x.txt) := fun i a x h1 h2 => by
      rw [List.getElem?_zipWith, h1, txts_map, List.getElem?_map, h2]; rfl
    generalize hZ : List.zipWith letT ns (X.txts l) = Z at *
    have hparts : ∀ x ∈ l.take ns.length, x.txt.length ≤ 1000000 := fun x hx => by
      obtain ⟨i, hi⟩ := List.mem_iff_getElem?.1 hx
      have hil := (List.getElem?_eq_some_iff.1 hi).1
      rw [List.length_take] at hil
      rw [List.getElem?_take_of_lt (by omega)] at hi
      have h3 := hz i ns[i] x (List.getElem?_eq_getElem (by omega)) hi
      have h4 := mem_joinT (List.mem_of_getElem? h3)
      simp only [letT, List.length_append, List.length_cons, List.length_nil] at h4
      omega
    refine ((Ev.all (l.take ns.length) fun x hx => ih x (List.mem_of_mem_take hx) (r3 x (List.mem_of_mem_take hx)) (f3 x (List.mem_of_mem_take hx)) (hparts x hx)).and ((ih y hym (r3 y hym) (f3 y hym) (by omega)).and (Ev.ge (ns.length + 1)))).mono fun n hn H => ?_
    obtain ⟨ihn, ey, hge⟩ := hn
    simp -implicitDefEqProofs only [c26, ↓v_lenS, SB, POp.val, AOp.val, WOp.val, Lite.bin, intBin, strBin, eqv, eqMany, eq1, AV.asBool, AV.asInt, AV.asNat, AV.asPtr, AV.asStr, resVals, ResV.val, oneOr, wants, skipped, fillAt, putAt, capOf, optNat, bnd, Nat.reduceBEq, reduceIte, Nat.reduceAdd, Nat.reduceLeDiff, Nat.reduceEqDiff, Nat.reduceSub, Nat.reduceMul, Nat.reduceDiv, SOper.again, same, sameBlk, sameCap, Nat.reduceBneDiff, s_draw2, s_pair, k_pair, asunder, SOper.into, Bool.not_false, Bool.not_true, CL, XS, Int.reduceBEq]
    refine loop_rounds ns.length (fun i fr H => fr 3 = .str ([40, 108, 101, 116, 32, 40] ++ joinT (Z.take i)) ∧ fr 4 = .int .i64 i ∧ fr 1 = .ptr (.new 0) 0 ∧ H.t.get 0 = some (.row [.int .i64 9, .str t, vStrs ns, vXs l] 0 false (some 28))) ?_ ?_ n 0 _ _ (by omega) (by omega) ?_
    · rintro i fr H K' hi ⟨h3, h4, h1', g0⟩ hKe hKr hK
      obtain ⟨a, ha⟩ : ∃ a, ns[i]? = some a := ⟨ns[i], List.getElem?_eq_getElem hi⟩
      obtain ⟨x, hx⟩ : ∃ x, l[i]? = some x := ⟨l[i], List.getElem?_eq_getElem (by omega)⟩
      have e1 := ihn x (List.mem_iff_getElem?.2 ⟨i, by rw [List.getElem?_take_of_lt hi]; exact hx⟩)
      have hs := hz i a x ha hx
      have hlt : (i : Int) < (ns.length : Int) := by omega
      have hw := wrap_succ hi (by omega)
      have hj := joinT_take hs
      have hjl := joinT_take_len Z (i + 1)
      rw [hj, List.length_append] at hjl
      generalize x.txt = v at *
      obtain ⟨kx, tx, nx, lx⟩ := x
      rw [X.v_mk] at e1
      generalize joinT (Z.take i) = T at *
      generalize hA : ([40, 108, 101, 116, 32, 40] : Str) = A at *
      have hAl : A.length = 6 := by rw [← hA]; rfl
      by_cases hi0 : i = 0
      · rw [if_pos hi0] at hj hjl
        simp only [letT, List.length_append, List.length_cons, List.length_nil] at hjl
        have hg : ¬ (i : Int) > 0 := by omega
        have hfin : (A ++ T ++ [40] ++ a ++ [32] ++ v ++ [41]) = A ++ joinT (Z.take (i + 1)) := by rw [hj]; simp [letT]
        have q0 : (A ++ T).length + ([40] : Str).length ≤ 4611686018427387904 := by simp only [List.length_append, List.length_cons, List.length_nil]; omega
        have q1 : (A ++ T ++ [40]).length + a.length ≤ 4611686018427387904 := by simp only [List.length_append, List.length_cons, List.length_nil]; omega
        have q2 : (A ++ T ++ [40] ++ a).length + ([32] : Str).length ≤ 4611686018427387904 := by simp only [List.length_append, List.length_cons, List.length_nil]; omega
        have q3 : (A ++ T ++ [40] ++ a ++ [32]).length + v.length ≤ 4611686018427387904 := by simp only [List.length_append, List.length_cons, List.length_nil]; omega
        have q4 : (A ++ T ++ [40] ++ a ++ [32] ++ v).length + ([41] : Str).length ≤ 4611686018427387904 := by simp only [List.length_append, List.length_cons, List.length_nil]; omega
        generalize hB : ([40] : Str) = B at *
        generalize hC : ([32] : Str) = C at *
        generalize hD : ([41] : Str) = D at *
        generalize e01 : A ++ T = S1 at *
        generalize e02 : S1 ++ B = S2 at *
        generalize e03 : S2 ++ a = S3 at *
        generalize e04 : S3 ++ C = S4 at *
        generalize e05 : S4 ++ v = S5 at *
        simp -implicitDefEqProofs only [c26_l0, hB, hC, hD, ↓v_lenS, SB, POp.val, AOp.val, WOp.val, Lite.bin, intBin, strBin, eqv, eqMany, eq1, AV.asBool, AV.asInt, AV.asNat, AV.asPtr, AV.asStr, resVals, ResV.val, oneOr, wants, skipped, fillAt, putAt, capOf, optNat, bnd, Nat.reduceBEq, reduceIte, Nat.reduceAdd, Nat.reduceLeDiff, Nat.reduceEqDiff, Nat.reduceSub, Nat.reduceMul, Nat.reduceDiv, SOper.again, same, sameBlk, sameCap, Nat.reduceBneDiff, s_draw2, s_pair, k_pair, asunder, SOper.into, Bool.not_false, Bool.not_true, CL, XS, h3, h4, h1', g0, hlt, hg, iaddr_vStrs ha, iaddr_vXs hx, e1, e02, e03, e04, e05, q0, q1, q2, q3, q4, hw]
        refine hK _ _ ?_
        simp -implicitDefEqProofs only [↓v_lenS, SB, POp.val, AOp.val, WOp.val, Lite.bin, intBin, strBin, eqv, eqMany, eq1, AV.asBool, AV.asInt, AV.asNat, AV.asPtr, AV.asStr, resVals, ResV.val, oneOr, wants, skipped, fillAt, putAt, capOf, optNat, bnd, Nat.reduceBEq, reduceIte, Nat.reduceAdd, Nat.reduceLeDiff, Nat.reduceEqDiff, Nat.reduceSub, Nat.reduceMul, Nat.reduceDiv, SOper.again, same, sameBlk, sameCap, Nat.reduceBneDiff, s_draw2, s_pair, k_pair, asunder, SOper.into, Bool.not_false, Bool.not_true, h1', g0, hfin]
      · rw [if_neg hi0] at hj hjl
        simp only [letT, List.length_append, List.length_cons, List.length_nil] at hjl
        have hg : (i : Int) > 0 := by omega
        have hfin : (A ++ T ++ [32] ++ [40] ++ a ++ [32] ++ v ++ [41]) = A ++ joinT (Z.take (i + 1)) := by rw [hj]; simp [letT]
        have q : (A ++ T).length + ([32] : Str).length ≤ 4611686018427387904 := by simp only [List.length_append, List.length_cons, List.length_nil]; omega
        have q0 : (A ++ T ++ [32]).length + ([40] : Str).length ≤ 4611686018427387904 := by simp only [List.length_append, List.length_cons, List.length_nil]; omega
        have q1 : (A ++ T ++ [32] ++ [40]).length + a.length ≤ 4611686018427387904 := by simp only [List.length_append, List.length_cons, List.length_nil]; omega
        have q2 : (A ++ T ++ [32] ++ [40] ++ a).length + ([32] : Str).length ≤ 4611686018427387904 := by simp only [List.length_append, List.length_cons, List.length_nil]; omega
        have q3 : (A ++ T ++ [32] ++ [40] ++ a ++ [32]).length + v.length ≤ 4611686018427387904 := by simp only [List.length_append, List.length_cons, List.length_nil]; omega
        have q4 : (A ++ T ++ [32] ++ [40] ++ a ++ [32] ++ v).length + ([41] : Str).length ≤ 4611686018427387904 := by simp only [List.length_append, List.length_cons, List.length_nil]; omega
        generalize hB : ([40] : Str) = B at *
        generalize hC : ([32] : Str) = C at *
        generalize hD : ([41] : Str) = D at *
        generalize e01 : A ++ T = S1 at *
        generalize e00 : S1 ++ C = S0 at *
        generalize e02 : S0 ++ B = S2 at *
        generalize e03 : S2 ++ a = S3 at *
        generalize e04 : S3 ++ C = S4 at *
        generalize e05 : S4 ++ v = S5 at *
        simp -implicitDefEqProofs only [c26_l0, hB, hC, hD, ↓v_lenS, SB, POp.val, AOp.val, WOp.val, Lite.bin, intBin, strBin, eqv, eqMany, eq1, AV.asBool, AV.asInt, AV.asNat, AV.asPtr, AV.asStr, resVals, ResV.val, oneOr, wants, skipped, fillAt, putAt, capOf, optNat, bnd, Nat.reduceBEq, reduceIte, Nat.reduceAdd, Nat.reduceLeDiff, Nat.reduceEqDiff, Nat.reduceSub, Nat.reduceMul, Nat.reduceDiv, SOper.again, same, sameBlk, sameCap, Nat.reduceBneDiff, s_draw2, s_pair, k_pair, asunder, SOper.into, Bool.not_false, Bool.not_true, CL, XS, h3, h4, h1', g0, hlt, hg, iaddr_vStrs ha, iaddr_vXs hx, e1, e00, e02, e03, e04, e05, q, q0, q1, q2, q3, q4, hw]
        refine hK _ _ ?_
        simp -implicitDefEqProofs only [↓v_lenS, SB, POp.val, AOp.val, WOp.val, Lite.bin, intBin, strBin, eqv, eqMany, eq1, AV.asBool, AV.asInt, AV.asNat, AV.asPtr, AV.asStr, resVals, ResV.val, oneOr, wants, skipped, fillAt, putAt, capOf, optNat, bnd, Nat.reduceBEq, reduceIte, Nat.reduceAdd, Nat.reduceLeDiff, Nat.reduceEqDiff, Nat.reduceSub, Nat.reduceMul, Nat.reduceDiv, SOper.again, same, sameBlk, sameCap, Nat.reduceBneDiff, s_draw2, s_pair, k_pair, asunder, SOper.into, Bool.not_false, Bool.not_true, h1', g0, hfin]
    · rintro fr H K' ⟨h3, h4, h1', g0⟩ hKe hKr
      rw [List.take_of_length_le (by rw [hzl]; exact Nat.le_refl _)] at h3
      generalize y.txt = Y at *
      obtain ⟨kx, tx, nx, lx⟩ := y
      rw [X.v_mk] at ey
      generalize joinT Z = T at *
      generalize hA : ([40, 108, 101, 116, 32, 40] : Str) = A at *
      have hAl : A.length = 6 := by rw [← hA]; rfl
      have q1 : (A ++ T).length + ([41, 32] : Str).length ≤ 4611686018427387904 := by simp only [List.length_append, List.length_cons, List.length_nil]; omega
      have q2 : (A ++ T ++ [41, 32]).length + Y.length ≤ 4611686018427387904 := by simp only [List.length_append, List.length_cons, List.length_nil]; omega
      have q3 : (A ++ T ++ [41, 32] ++ Y).length + ([41] : Str).length ≤ 4611686018427387904 := by simp only [List.length_append, List.length_cons, List.length_nil]; omega
      generalize hB : ([41, 32] : Str) = B at *
      generalize hD : ([41] : Str) = D at *
      generalize e01 : A ++ T = S1 at *
      generalize e02 : S1 ++ B = S2 at *
      generalize e03 : S2 ++ Y = S3 at *
      simp -implicitDefEqProofs only [c26_l0, hB, hD, ↓v_lenS, SB, POp.val, AOp.val, WOp.val, Lite.bin, intBin, strBin, eqv, eqMany, eq1, AV.asBool, AV.asInt, AV.asNat, AV.asPtr, AV.asStr, resVals, ResV.val, oneOr, wants, skipped, fillAt, putAt, capOf, optNat, bnd, Nat.reduceBEq, reduceIte, Nat.reduceAdd, Nat.reduceLeDiff, Nat.reduceEqDiff, Nat.reduceSub, Nat.reduceMul, Nat.reduceDiv, SOper.again, same, sameBlk, sameCap, Nat.reduceBneDiff, s_draw2, s_pair, k_pair, asunder, SOper.into, Bool.not_false, Bool.not_true, CL, XS, h3, h4, h1', g0, Int.lt_irrefl, hKe, iaddr_vXs hy, ey, e02, e03, q1, q2, q3, Ends, gives_ret]
      refine ⟨H, ?_⟩
      rw [← e03, ← e02, ← e01, ← hA]
      rfl
    · have hJ : joinT (Z.take 0) = [] := by rw [List.take_zero]; rfl
      rw [hJ]
      simp -implicitDefEqProofs only [↓v_lenS, SB, POp.val, AOp.val, WOp.val, Lite.bin, intBin, strBin, eqv, eqMany, eq1, AV.asBool, AV.asInt, AV.asNat, AV.asPtr, AV.asStr, resVals, ResV.val, oneOr, wants, skipped, fillAt, putAt, capOf, optNat, bnd, Nat.reduceBEq, reduceIte, Nat.reduceAdd, Nat.reduceLeDiff, Nat.reduceEqDiff, Nat.reduceSub, Nat.reduceMul, Nat.reduceDiv, SOper.again, same, sameBlk, sameCap, Nat.reduceBneDiff, s_draw2, s_pair, k_pair, asunder, SOper.into, Bool.not_false, Bool.not_true]
      rfl
  · have hT : txtOf 10 t ns (X.txts l) = [40] ++ t ++ [32] ++ joinT (X.txts l) ++ [41] := rfl
    rw [hT] at hlen ⊢
    simp only [List.length_append, List.length_cons, List.length_nil] at hlen
    refine (rowOk (by omega)).mono fun n e1 H => ?_
    generalize joinT (X.txts l) = J at *
    have b0 : ([40] : Str).length + t.length ≤ 4611686018427387904 := by simp only [List.length_append, List.length_cons, List.length_nil]; omega
    have b1 : ([40] ++ t).length + ([32] : Str).length ≤ 4611686018427387904 := by simp only [List.length_append, List.length_cons, List.length_nil]; omega
    have b2 : ([40] ++ t ++ [32]).length + J.length ≤ 4611686018427387904 := by simp only [List.length_append, List.length_cons, List.length_nil]; omega
    have b3 : ([40] ++ t ++ [32] ++ J).length + ([41] : Str).length ≤ 4611686018427387904 := by simp only [List.length_append, List.length_cons, List.length_nil]; omega
    generalize hA : ([40] : Str) = A at *
    generalize hB : ([32] : Str) = B at *
    generalize hC : ([41] : Str) = C at *
    generalize h00 : A ++ t = S0 at *
    generalize h01 : S0 ++ B = S1 at *
    generalize h02 : S1 ++ J = S2 at *
    simp -implicitDefEqProofs only [c26, hA, hB, hC, h00, h01, h02, ↓v_lenS, SB, POp.val, AOp.val, WOp.val, Lite.bin, intBin, strBin, eqv, eqMany, eq1, AV.asBool, AV.asInt, AV.asNat, AV.asPtr, AV.asStr, resVals, ResV.val, oneOr, wants, skipped, fillAt, putAt, capOf, optNat, bnd, Nat.reduceBEq, reduceIte, Nat.reduceAdd, Nat.reduceLeDiff, Nat.reduceEqDiff, Nat.reduceSub, Nat.reduceMul, Nat.reduceDiv, SOper.again, same, sameBlk, sameCap, Nat.reduceBneDiff, s_draw2, s_pair, k_pair, asunder, SOper.into, Bool.not_false, Bool.not_true, CL, XS, Int.reduceBEq, e1, b0, b1, b2, b3, Ends, gives_ret]
    exact ⟨_, rfl⟩

end Go.Lite

/-
  The law NormKnown, from the contracts.
-/
namespace Go.Lite
open Go Go.Proofs
set_option maxRecDepth 100000
set_option linter.unusedSimpArgs false
set_option linter.unusedVariables false

def oneX : X := .mk 1 [49] [] []
def sumX : X := .mk 10 [43] [] [varX [120], oneX]
def appX : X := .mk 7 [] [] [varX [102], sumX]
def knownX : Nat → X
  | 0 => appX
  | 1 => .mk 7 [] [] [varX [102], appX, varX [120], sumX]
  | 2 => .mk 10 [43] [] [appX, sumX]
  | 3 => .mk 10 consT [] [sumX, .mk 10 consT [] [oneX, varX [120]]]
  | 4 => .mk 7 [] [] [appX, varX [120]]
  | _ => .mk 6 [] [[121]] [appX]
def knownT : Nat → Str
  | 0 => [40, 108, 101, 116, 32, 40, 40, 37, 46, 49, 32, 40, 43, 32, 120, 32, 49, 41, 41, 41, 32, 40, 102, 32, 37, 46, 49, 41, 41]
  | 1 => [40, 108, 101, 116, 32, 40, 40, 37, 46, 50, 32, 40, 108, 101, 116, 32, 40, 40, 37, 46, 49, 32, 40, 43, 32, 120, 32, 49, 41, 41, 41, 32, 40, 102, 32, 37, 46, 49, 41, 41, 41, 41, 32, 40, 108, 101, 116, 32, 40, 40, 37, 46, 51, 32, 40, 43, 32, 120, 32, 49, 41, 41, 41, 32, 40, 102, 32, 37, 46, 50, 32, 120, 32, 37, 46, 51, 41, 41, 41]
  | 2 => [40, 43, 32, 40, 108, 101, 116, 32, 40, 40, 37, 46, 49, 32, 40, 43, 32, 120, 32, 49, 41, 41, 41, 32, 40, 102, 32, 37, 46, 49, 41, 41, 32, 40, 43, 32, 120, 32, 49, 41, 41]
  | 3 => [40, 108, 101, 116, 32, 40, 40, 37, 46, 49, 32, 40, 43, 32, 120, 32, 49, 41, 41, 41, 32, 40, 108, 101, 116, 32, 40, 40, 37, 46, 50, 32, 40, 99, 111, 110, 115, 32, 49, 32, 120, 41, 41, 41, 32, 40, 99, 111, 110, 115, 32, 37, 46, 49, 32, 37, 46, 50, 41, 41, 41]
  | 4 => [40, 40, 108, 101, 116, 32, 40, 40, 37, 46, 49, 32, 40, 43, 32, 120, 32, 49, 41, 41, 41, 32, 40, 102, 32, 37, 46, 49, 41, 41, 32, 120, 41]
  | _ => [40, 108, 97, 109, 98, 100, 97, 32, 40, 121, 41, 32, 40, 108, 101, 116, 32, 40, 40, 37, 46, 49, 32, 40, 43, 32, 120, 32, 49, 41, 41, 41, 32, 40, 102, 32, 37, 46, 49, 41, 41, 41]

theorem varX_good (s : Str) (h : s ≠ []) : (varX s).right := ⟨.inr (.inr (.inr (.inr (.inl ⟨rfl, h, rfl, rfl⟩)))), onceB_nil, trivial⟩
theorem oneX_right : oneX.right := ⟨.inl ⟨rfl, by simp [intT], rfl, rfl⟩, onceB_nil, trivial⟩
theorem prim_right {t : Str} {l : List X} (h0 : 0 < arityX t) (h1 : (l.length : Int) = arityX t) (h : ∀ x ∈ l, x.right) : (X.mk 10 t [] l).right := ⟨.inr (.inr (.inr (.inr (.inr (.inr (.inr (.inr (.inr ⟨rfl, h0, h1, rfl⟩)))))))), onceB_nil, (rights_iff l).2 h⟩
theorem app_right {l : List X} (h1 : 2 ≤ l.length) (h : ∀ x ∈ l, x.right) : (X.mk 7 [] [] l).right := ⟨.inr (.inr (.inr (.inr (.inr (.inr (.inl ⟨rfl, rfl, rfl, h1⟩)))))), onceB_nil, (rights_iff l).2 h⟩

theorem sumX_right : sumX.right := prim_right (by decide) (by decide) (by simp [varX_good, oneX_right])
theorem appX_right : appX.right := app_right (by decide) (by simp [varX_good, sumX_right])
theorem knownX_right (j : Nat) : (knownX j).right := by
  unfold knownX
  split
  · exact appX_right
  · exact app_right (by decide) (by simp [varX_good, sumX_right, appX_right])
  · exact prim_right (by decide) (by decide) (by simp [sumX_right, appX_right])
  · refine prim_right (by decide) (by decide) ?_
    simp only [List.mem_cons, List.not_mem_nil, or_false, forall_eq_or_imp, forall_eq]
    exact ⟨sumX_right, prim_right (by decide) (by decide) (by simp [varX_good, oneX_right])⟩
  · exact app_right (by decide) (by simp [varX_good, appX_right])
  · refine ⟨.inr (.inr (.inr (.inr (.inr (.inl ⟨rfl, rfl, by decide, rfl⟩))))), onceB_one (by decide), appX_right, trivial⟩

theorem knownX_fit (j : Nat) : (knownX j).fit := by
  unfold knownX
  split <;> simp [X.fit, X.fits, appX, sumX, oneX, varX, consT]

theorem knownX_txt : ∀ j : Fin 6, ((knownX j.1).nrm 0).2 < 100 ∧ ((knownX j.1).nrm 0).1.txt = knownT j.1 := by decide +kernel

set_option maxHeartbeats 4000000 in
theorem law7 (q : Int) : Ret P3 7 [.int .i64 q] (.bool true) := by
  refine Ret.of rfl (code7 _ _) rfl rfl (fun H => by simp -implicitDefEqProofs only [↓v_lenS, SB, POp.val, AOp.val, WOp.val, Lite.bin, intBin, strBin, eqv, eqMany, eq1, AV.asBool, AV.asInt, AV.asNat, AV.asPtr, AV.asStr, resVals, ResV.val, oneOr, wants, skipped, fillAt, putAt, capOf, optNat, bnd, Nat.reduceBEq, reduceIte, Nat.reduceAdd, Nat.reduceLeDiff, Nat.reduceEqDiff, Nat.reduceSub, Nat.reduceMul, Nat.reduceDiv, SOper.again, same, sameBlk, sameCap, Nat.reduceBneDiff, s_draw2, s_pair, k_pair, asunder, SOper.into, Bool.not_false, Bool.not_true]) ?_
  obtain ⟨j0, j1⟩ := within_range q 6 (by decide) (by decide)
  obtain ⟨j, hj⟩ : ∃ j : Nat, within q 6 = j := ⟨(within q 6).toNat, by omega⟩
  have h18 := run18 q 6 (by decide)
  rw [hj] at h18 j1
  have hj6 : j < 6 := by omega
  obtain ⟨t1, t2⟩ := knownX_txt ⟨j, hj6⟩
  simp only [] at t1 t2
  have h16 := norm16 (knownX j) (knownX_fit j) t1
  have hfx := nrm_fit _ (knownX_fit j) 0
  have h26 := text26 ((knownX j).nrm 0).1 (nrm_right _ (knownX_right j) 0) hfx (by rw [t2]; unfold knownT; split <;> decide)
  rw [t2] at h26
  have hj' : j = 0 ∨ j = 1 ∨ j = 2 ∨ j = 3 ∨ j = 4 ∨ j = 5 := by omega
  refine (known10.and ((var25 [102]).and ((var25 [120]).and (h18.and (h16.and h26))))).mono fun n hn H => ?_
  obtain ⟨e10, e1, e2, e18, e16, e26⟩ := hn
  generalize ((knownX j).nrm 0).1 = x at *
  obtain ⟨kx, tx, nx, lx⟩ := x
  have h6 : ((6 : Nat) : Int) = 6 := rfl
  have l0 : (0 : Nat) < 6 := by decide
  have l1 : (1 : Nat) < 6 := by decide
  have l2 : (2 : Nat) < 6 := by decide
  have l3 : (3 : Nat) < 6 := by decide
  have l4 : (4 : Nat) < 6 := by decide
  have l5 : (5 : Nat) < 6 := by decide
  rcases hj' with rfl | rfl | rfl | rfl | rfl | rfl
  all_goals
    simp only [knownX, knownT, appX, sumX, oneX, varX, consT, X.v_mk, vXs, vList_cons, List.flatMap_cons, List.flatMap_nil, X.cells_mk, List.length_cons, List.length_nil, List.append_nil, List.cons_append, List.nil_append, vStrs_nil, vXs_nil, vStrs_one, vList_nil, Nat.zero_add, Nat.reduceAdd] at e10 e1 e2 e18 e16 e26
    simp -implicitDefEqProofs only [c7, ↓v_lenS, SB, POp.val, AOp.val, WOp.val, Lite.bin, intBin, strBin, eqv, eqMany, eq1, AV.asBool, AV.asInt, AV.asNat, AV.asPtr, AV.asStr, resVals, ResV.val, oneOr, wants, skipped, fillAt, putAt, capOf, optNat, bnd, Nat.reduceBEq, reduceIte, Nat.reduceAdd, Nat.reduceLeDiff, Nat.reduceEqDiff, Nat.reduceSub, Nat.reduceMul, Nat.reduceDiv, SOper.again, same, sameBlk, sameCap, Nat.reduceBneDiff, s_draw2, s_pair, k_pair, asunder, SOper.into, Bool.not_false, Bool.not_true, CL, XS, e10, e1, e2, e18, h6, l0, l1, l2, l3, l4, l5, Int.toNat_zero, Int.le_refl, Nat.zero_mul, Nat.mul_one, shutC_sl, shutRow_row, Cap.es, Cap.full, Nat.zero_add, Nat.reduceMul, e16, e26, Ends, gives_ret]

    exact ⟨_, rfl⟩

end Go.Lite
