/-
  Data without marks; data of no great size; known.
-/
import Derived.Test.YtibjdfajafilhaaEMark
namespace Go.Lite
open Go Go.Proofs
set_option maxRecDepth 100000
set_option linter.unusedSimpArgs false
set_option linter.unusedVariables false

mutual
/-- a datum without marks -/
def D.plain : D → D
  | .mk k t _ l a => .mk k t [] (D.plains l) a
def D.plains : List D → List D
  | [] => []
  | d :: ds => d.plain :: D.plains ds
end

theorem plains_map (l : List D) : D.plains l = l.map D.plain := by
  induction l with
  | nil => rfl
  | cons r l ih => rw [D.plains, ih]; rfl

theorem plains_take {l : List D} {i : Nat} {r : D} (h : l[i]? = some r) : D.plains (l.take (i + 1)) = D.plains (l.take i) ++ [r.plain] := by
  rw [plains_map, plains_map, List.take_add_one, h]; simp

theorem plains_len (l : List D) : (D.plains l).length = l.length := by rw [plains_map]; simp

theorem D.cells_flat (d : D) : d.cells.all AV.flat = true := by
  cases d; rw [D.cells_mk]; exact five_flat

mutual
/-- lists of no greater length than the laws reach -/
def D.small : D → Prop
  | .mk _ _ ms l _ => ms.length ≤ 1048576 ∧ l.length ≤ 1048576 ∧ D.smalls l
def D.smalls : List D → Prop
  | [] => True
  | d :: ds => d.small ∧ D.smalls ds
end

theorem D.smalls_iff (l : List D) : D.smalls l ↔ ∀ d ∈ l, d.small := by
  induction l with
  | nil => simp [D.smalls]
  | cons d l ih => simp [D.smalls, ih]

theorem D.small.fit : ∀ d : D, d.small → d.fit := D.indA fun k t ms l a ih h => by
  rw [D.small, D.smalls_iff] at h
  rw [D.fit, D.fits_iff]
  exact ⟨by omega, by omega, fun d hd => ih d hd (h.2.2 d hd)⟩

/-- known -/
theorem known11 : Ret P2 11 [] (.bool true) := by
  refine Ret.of rfl (code11 _ _) rfl rfl (fun H => rfl) ?_
  refine ((text14 (.mk 4 [] [] [] 0) ⟨by simp, trivial⟩ (by simp [D.txt, D.txts])).and ((is22 (.mk 3 [97] [] [] 0) [97]).and (size15 (.mk 1 [49] [] [] 0) (by simp [D.size, D.sizes])))).mono fun n hn H => ?_
  obtain ⟨e1, e2, e3⟩ := hn
  simp only [D.v_mk, vInts_nil, vData_nil, D.txt, D.txts, D.size, D.sizes, if_true, List.append_nil, List.cons_append, List.nil_append] at e1 e2 e3
  simp -implicitDefEqProofs only [c11, ↓v_lenS, SB, POp.val, AOp.val, WOp.val, Lite.bin, intBin, strBin, eqv, eqMany, eq1, AV.asBool, AV.asInt, AV.asNat, AV.asPtr, AV.asStr, resVals, ResV.val, oneOr, wants, skipped, fillAt, putAt, capOf, optNat, bnd, Nat.reduceBEq, reduceIte, Nat.reduceAdd, Nat.reduceLeDiff, Nat.reduceEqDiff, Nat.reduceSub, Nat.reduceMul, Nat.reduceDiv, SOper.again, same, sameBlk, sameCap, Nat.reduceBneDiff, s_draw2, s_pair, k_pair, asunder, SOper.into, Bool.not_false, Bool.not_true, CL, e1, e2, e3, Ends, gives_ret]
  exact ⟨_, rfl⟩

end Go.Lite
