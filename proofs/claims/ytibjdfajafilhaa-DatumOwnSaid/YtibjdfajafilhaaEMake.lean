/-
  Raw data: how many they are, what data they make.
-/
import Derived.Test.YtibjdfajafilhaaEPlain
namespace Go.Lite
open Go Go.Proofs
set_option maxRecDepth 100000
set_option linter.unusedSimpArgs false
set_option linter.unusedVariables false

inductive Raw where
  | mk (k n : Int) (l : List Raw)

mutual
theorem Raw.indA {P : Raw → Prop} (h : ∀ k n l, (∀ d ∈ l, P d) → P (.mk k n l)) : ∀ d, P d
  | .mk k n l => h k n l (Raw.indB h l)
theorem Raw.indB {P : Raw → Prop} (h : ∀ k n l, (∀ d ∈ l, P d) → P (.mk k n l)) : ∀ l : List Raw, ∀ d ∈ l, P d
  | [], d, hd => by cases hd
  | e :: l, d, hd => by
    rcases List.mem_cons.1 hd with h1 | h1
    · rw [h1]; exact Raw.indA h e
    · exact Raw.indB h l d h1
end

def Raw.l : Raw → List Raw
  | .mk _ _ l => l

mutual
def Raw.cells : Raw → List AV
  | .mk k n l => [.int .i64 k, .int .i64 n, .L false 3 (Raw.cellsL l) l.length]
def Raw.cellsL : List Raw → List AV
  | [] => []
  | d :: ds => d.cells ++ Raw.cellsL ds
end

theorem Raw.cellsL_eq (l : List Raw) : Raw.cellsL l = l.flatMap Raw.cells := by
  induction l with
  | nil => rfl
  | cons d l ih => rw [Raw.cellsL, ih, List.flatMap_cons]

def vRaws (l : List Raw) : AV := vList false 3 Raw.cells l

theorem Raw.cells_mk (k n : Int) (l : List Raw) : (Raw.mk k n l).cells = [.int .i64 k, .int .i64 n, vRaws l] := by
  rw [Raw.cells, Raw.cellsL_eq]; rfl
theorem Raw.cells_len (d : Raw) : d.cells.length = 3 := by cases d; rw [Raw.cells_mk]; rfl
theorem Raw.still (d : Raw) : Still d.cells := by
  cases d
  rw [Raw.cells_mk]
  exact .cons (fun _ _ => shutC_int) (.cons (fun _ _ => shutC_int) (.cons (fun _ _ => shutC_vList) .nil))
theorem len_vRaws {l : List Raw} : lenM (vRaws l) = some (.int .i64 l.length) := len_vList
theorem shutC_vRaws {d : Nat} {l : List Raw} {H : Heap} : shutC d (vRaws l) H = some (vRaws l, H) := shutC_vList
theorem shutV_vRaws {l : List Raw} {H : Heap} : shutV (vRaws l) H = some (vRaws l, H) := shutV_vList
theorem fl_vRaws {l : List Raw} : (vRaws l).flat = true := fl_vList
theorem iaddr_vRaws {l : List Raw} {j : Nat} {d : Raw} (h : l[j]? = some d) : iaddrV 3 (vRaws l) j = some (.ptr (.val d.cells) 0) := iaddr_at Raw.cells_len h

/-! ### How many -/

mutual
def Raw.cnt : Raw → Nat
  | .mk _ _ l => 1 + Raw.cnts l
def Raw.cnts : List Raw → Nat
  | [] => 0
  | d :: ds => d.cnt + Raw.cnts ds
end

/-- as long as there are not too many -/
def goR (f : Raw → Nat) : Nat → List Raw → Nat
  | n, [] => n
  | n, r :: rs => if n ≤ 60 then goR f (n + 1 + f r) rs else n

/-- how many, as the law counts them: so many levels may still come -/
def sizeR : Nat → List Raw → Nat
  | 0, _ => 1000
  | s + 1, l => goR (fun r => sizeR s r.l) 0 l

theorem goR_ge (f : Raw → Nat) : ∀ (l : List Raw) (n : Nat), n ≤ goR f n l
  | [], n => Nat.le_refl n
  | r :: rs, n => by
    rw [goR]
    split
    · exact Nat.le_trans (by omega) (goR_ge f rs _)
    · exact Nat.le_refl n

theorem goR_le {f : Raw → Nat} {B : Nat} (hf : ∀ r, f r ≤ B) : ∀ (l : List Raw) (n : Nat), n ≤ 61 + B → goR f n l ≤ 61 + B
  | [], n, h => h
  | r :: rs, n, h => by
    rw [goR]
    split
    · exact goR_le hf rs _ (by have := hf r; omega)
    · exact h

theorem sizeR_le : ∀ (s : Nat) (l : List Raw), sizeR s l ≤ 1000 + 61 * s
  | 0, l => by simp [sizeR]
  | s + 1, l => by
    rw [sizeR]
    have := goR_le (B := 1000 + 61 * s) (fun r => sizeR_le s r.l) l 0 (by omega)
    omega

theorem few_cnt : ∀ (s : Nat) (l : List Raw), sizeR s l ≤ 60 → sizeR s l = Raw.cnts l
  | 0, l, h => by simp [sizeR] at h
  | s + 1, l, h => by
    rw [sizeR] at h ⊢
    have key : ∀ (l : List Raw) (n : Nat), goR (fun r => sizeR s r.l) n l ≤ 60 → goR (fun r => sizeR s r.l) n l = n + Raw.cnts l := by
      intro l
      induction l with
      | nil => intro n h; simp [goR, Raw.cnts]
      | cons r rs ih =>
        intro n h
        rw [goR] at h ⊢
        split at h
        · rename_i hn
          rw [if_pos hn, ih _ h, Raw.cnts]
          have h1 := goR_ge (fun r => sizeR s r.l) rs (n + 1 + sizeR s r.l)
          have h2 := few_cnt s r.l (by omega)
          obtain ⟨k, q, l⟩ := r
          rw [Raw.cnt]
          simp only [Raw.l] at h2 ⊢
          omega
        · omega
    have := key l 0 h
    omega


mutual
/-- lists of no greater length than any machine holds -/
def Raw.fit : Raw → Prop
  | .mk _ _ l => l.length ≤ 9223372036854775807 ∧ Raw.fits l
def Raw.fits : List Raw → Prop
  | [] => True
  | d :: ds => d.fit ∧ Raw.fits ds
end

theorem Raw.fits_iff (l : List Raw) : Raw.fits l ↔ ∀ d ∈ l, d.fit := by
  induction l with
  | nil => simp [Raw.fits]
  | cons d l ih => simp [Raw.fits, ih]

theorem goR_stop {f : Raw → Nat} {n : Nat} (h : 60 < n) : ∀ l, goR f n l = n
  | [] => rfl
  | r :: rs => by rw [goR, if_neg (by omega)]

theorem sizeRun : ∀ (s : Nat), s ≤ 21 → ∀ (l : List Raw), l.length ≤ 9223372036854775807 → Raw.fits l → Ret P2 29 [vRaws l, .int .i64 (21 - s : Int)] (.int .i64 (sizeR s l))
  | 0, _, l, _, _ => by
    refine Ret.of rfl (code29 _ _) rfl rfl (fun H => by simp -implicitDefEqProofs only [↓v_lenS, SB, POp.val, AOp.val, WOp.val, Lite.bin, intBin, strBin, eqv, eqMany, eq1, AV.asBool, AV.asInt, AV.asNat, AV.asPtr, AV.asStr, resVals, ResV.val, oneOr, wants, skipped, fillAt, putAt, capOf, optNat, bnd, Nat.reduceBEq, reduceIte, Nat.reduceAdd, Nat.reduceLeDiff, Nat.reduceEqDiff, Nat.reduceSub, Nat.reduceMul, Nat.reduceDiv, SOper.again, same, sameBlk, sameCap, Nat.reduceBneDiff, s_draw2, s_pair, k_pair, asunder, SOper.into, Bool.not_false, Bool.not_true, shutV_vRaws]) (Ev.of fun n H => ?_)
    have h : ((21 : Int) - (0 : Nat) > 20) := by decide
    simp -implicitDefEqProofs only [c29, ↓v_lenS, SB, POp.val, AOp.val, WOp.val, Lite.bin, intBin, strBin, eqv, eqMany, eq1, AV.asBool, AV.asInt, AV.asNat, AV.asPtr, AV.asStr, resVals, ResV.val, oneOr, wants, skipped, fillAt, putAt, capOf, optNat, bnd, Nat.reduceBEq, reduceIte, Nat.reduceAdd, Nat.reduceLeDiff, Nat.reduceEqDiff, Nat.reduceSub, Nat.reduceMul, Nat.reduceDiv, SOper.again, same, sameBlk, sameCap, Nat.reduceBneDiff, s_draw2, s_pair, k_pair, asunder, SOper.into, Bool.not_false, Bool.not_true, h, Ends, gives_ret]
    exact ⟨_, rfl⟩
  | s + 1, hs, l, hl, hf => by
    rw [Raw.fits_iff] at hf
    have ih : ∀ r ∈ l, Ret P2 29 [vRaws r.l, .int .i64 (21 - s : Int)] (.int .i64 (sizeR s r.l)) := fun r hr => by
      have := hf r hr
      obtain ⟨k, q, l'⟩ := r
      rw [Raw.fit] at this
      exact sizeRun s (by omega) l' this.1 this.2
    refine Ret.of rfl (code29 _ _) rfl rfl (fun H => by simp -implicitDefEqProofs only [↓v_lenS, SB, POp.val, AOp.val, WOp.val, Lite.bin, intBin, strBin, eqv, eqMany, eq1, AV.asBool, AV.asInt, AV.asNat, AV.asPtr, AV.asStr, resVals, ResV.val, oneOr, wants, skipped, fillAt, putAt, capOf, optNat, bnd, Nat.reduceBEq, reduceIte, Nat.reduceAdd, Nat.reduceLeDiff, Nat.reduceEqDiff, Nat.reduceSub, Nat.reduceMul, Nat.reduceDiv, SOper.again, same, sameBlk, sameCap, Nat.reduceBneDiff, s_draw2, s_pair, k_pair, asunder, SOper.into, Bool.not_false, Bool.not_true, shutV_vRaws]) ?_
    refine ((Ev.all l ih).and (Ev.ge (l.length + 1))).mono fun n hn H => ?_
    obtain ⟨ihn, hge⟩ := hn
    have h : ¬ ((21 : Int) - ((s + 1 : Nat) : Int) > 20) := by omega
    rw [sizeR]
    simp -implicitDefEqProofs only [c29, ↓v_lenS, SB, POp.val, AOp.val, WOp.val, Lite.bin, intBin, strBin, eqv, eqMany, eq1, AV.asBool, AV.asInt, AV.asNat, AV.asPtr, AV.asStr, resVals, ResV.val, oneOr, wants, skipped, fillAt, putAt, capOf, optNat, bnd, Nat.reduceBEq, reduceIte, Nat.reduceAdd, Nat.reduceLeDiff, Nat.reduceEqDiff, Nat.reduceSub, Nat.reduceMul, Nat.reduceDiv, SOper.again, same, sameBlk, sameCap, Nat.reduceBneDiff, s_draw2, s_pair, k_pair, asunder, SOper.into, Bool.not_false, Bool.not_true, h]
    refine loop_rounds l.length (fun i fr H => ∃ acc, goR (fun r => sizeR s r.l) acc (l.drop i) = goR (fun r => sizeR s r.l) 0 l ∧ acc ≤ 3000 ∧ fr 0 = vRaws l ∧ fr 1 = .int .i64 (21 - (s + 1 : Nat) : Int) ∧ fr 6 = .int .i64 i ∧ fr 5 = .int .i64 acc) ?_ ?_ n 0 _ _ (by omega) (by omega) ?_
    · rintro i fr H K' hi ⟨acc, hacc, hle, h0, h1, h6, h5⟩ hKe hKr hK
      obtain ⟨r, hr⟩ : ∃ r, l[i]? = some r := ⟨l[i], List.getElem?_eq_getElem hi⟩
      have e1 := ihn r (List.mem_of_getElem? hr)
      have hlt : (i : Int) < (l.length : Int) := by omega
      have hw := wrap_succ hi hl
      have hdr : l.drop i = r :: l.drop (i + 1) := by
        have h3 := (List.getElem?_eq_some_iff.1 hr)
        rw [← List.getElem_cons_drop (h := hi), h3.2]
      rw [hdr, goR] at hacc
      by_cases h60 : acc ≤ 60
      · rw [if_pos h60] at hacc
        have hg : (acc : Int) ≤ 60 := by omega
        have hw1 : IntKind.i64.wrap ((acc : Int) + 1) = ((acc + 1 : Nat) : Int) := by rw [wrap64 (by omega) (by omega)]; rfl
        have hb := sizeR_le s r.l
        have hw2 : IntKind.i64.wrap (((acc + 1 : Nat) : Int) + ((sizeR s r.l : Nat) : Int)) = ((acc + 1 + sizeR s r.l : Nat) : Int) := wrap_nat (by omega)
        have hw3 : IntKind.i64.wrap ((21 : Int) - ((s + 1 : Nat) : Int) + 1) = (21 : Int) - (s : Int) := by rw [wrap64 (by omega) (by omega)]; omega
        obtain ⟨k, q, l'⟩ := r
        simp only [Raw.l] at e1 hacc hw2 hb
        simp -implicitDefEqProofs only [c29_l0, ↓v_lenS, SB, POp.val, AOp.val, WOp.val, Lite.bin, intBin, strBin, eqv, eqMany, eq1, AV.asBool, AV.asInt, AV.asNat, AV.asPtr, AV.asStr, resVals, ResV.val, oneOr, wants, skipped, fillAt, putAt, capOf, optNat, bnd, Nat.reduceBEq, reduceIte, Nat.reduceAdd, Nat.reduceLeDiff, Nat.reduceEqDiff, Nat.reduceSub, Nat.reduceMul, Nat.reduceDiv, SOper.again, same, sameBlk, sameCap, Nat.reduceBneDiff, s_draw2, s_pair, k_pair, asunder, SOper.into, Bool.not_false, Bool.not_true, CL, h0, h1, h6, h5, hlt, hg, iaddr_vRaws hr, Raw.cells_mk, shutV_vRaws, len_vRaws, e1, hw, hw1, hw2, hw3]
        refine hK _ _ ⟨acc + 1 + sizeR s l', hacc, by omega, ?_⟩
        simp -implicitDefEqProofs only [↓v_lenS, SB, POp.val, AOp.val, WOp.val, Lite.bin, intBin, strBin, eqv, eqMany, eq1, AV.asBool, AV.asInt, AV.asNat, AV.asPtr, AV.asStr, resVals, ResV.val, oneOr, wants, skipped, fillAt, putAt, capOf, optNat, bnd, Nat.reduceBEq, reduceIte, Nat.reduceAdd, Nat.reduceLeDiff, Nat.reduceEqDiff, Nat.reduceSub, Nat.reduceMul, Nat.reduceDiv, SOper.again, same, sameBlk, sameCap, Nat.reduceBneDiff, s_draw2, s_pair, k_pair, asunder, SOper.into, Bool.not_false, Bool.not_true, h0, h1, h6]
      · rw [if_neg h60] at hacc
        have hg : ¬ (acc : Int) ≤ 60 := by omega
        simp -implicitDefEqProofs only [c29_l0, ↓v_lenS, SB, POp.val, AOp.val, WOp.val, Lite.bin, intBin, strBin, eqv, eqMany, eq1, AV.asBool, AV.asInt, AV.asNat, AV.asPtr, AV.asStr, resVals, ResV.val, oneOr, wants, skipped, fillAt, putAt, capOf, optNat, bnd, Nat.reduceBEq, reduceIte, Nat.reduceAdd, Nat.reduceLeDiff, Nat.reduceEqDiff, Nat.reduceSub, Nat.reduceMul, Nat.reduceDiv, SOper.again, same, sameBlk, sameCap, Nat.reduceBneDiff, s_draw2, s_pair, k_pair, asunder, SOper.into, Bool.not_false, Bool.not_true, CL, h0, h1, h6, h5, hlt, hg, len_vRaws, hKe, Ends, gives_ret]
        exact ⟨_, by rw [hacc]⟩
    · rintro fr H K' ⟨acc, hacc, hle, h0, h1, h6, h5⟩ hKe hKr
      rw [List.drop_length, goR] at hacc
      simp -implicitDefEqProofs only [c29_l0, ↓v_lenS, SB, POp.val, AOp.val, WOp.val, Lite.bin, intBin, strBin, eqv, eqMany, eq1, AV.asBool, AV.asInt, AV.asNat, AV.asPtr, AV.asStr, resVals, ResV.val, oneOr, wants, skipped, fillAt, putAt, capOf, optNat, bnd, Nat.reduceBEq, reduceIte, Nat.reduceAdd, Nat.reduceLeDiff, Nat.reduceEqDiff, Nat.reduceSub, Nat.reduceMul, Nat.reduceDiv, SOper.again, same, sameBlk, sameCap, Nat.reduceBneDiff, s_draw2, s_pair, k_pair, asunder, SOper.into, Bool.not_false, Bool.not_true, CL, h0, h1, h6, h5, Int.lt_irrefl, len_vRaws, hKe, Ends, gives_ret]
      exact ⟨_, by rw [hacc]⟩
    · refine ⟨0, by rw [List.drop_zero], by omega, ?_⟩
      simp -implicitDefEqProofs only [↓v_lenS, SB, POp.val, AOp.val, WOp.val, Lite.bin, intBin, strBin, eqv, eqMany, eq1, AV.asBool, AV.asInt, AV.asNat, AV.asPtr, AV.asStr, resVals, ResV.val, oneOr, wants, skipped, fillAt, putAt, capOf, optNat, bnd, Nat.reduceBEq, reduceIte, Nat.reduceAdd, Nat.reduceLeDiff, Nat.reduceEqDiff, Nat.reduceSub, Nat.reduceMul, Nat.reduceDiv, SOper.again, same, sameBlk, sameCap, Nat.reduceBneDiff, s_draw2, s_pair, k_pair, asunder, SOper.into, Bool.not_false, Bool.not_true]
      rfl

theorem few12 (l : List Raw) (hl : l.length ≤ 9223372036854775807) (hf : Raw.fits l) : Ret P2 12 [vRaws l] (.bool (decide (sizeR 21 l ≤ 60))) := by
  refine Ret.of rfl (code12 _ _) rfl rfl (fun H => by simp -implicitDefEqProofs only [↓v_lenS, SB, POp.val, AOp.val, WOp.val, Lite.bin, intBin, strBin, eqv, eqMany, eq1, AV.asBool, AV.asInt, AV.asNat, AV.asPtr, AV.asStr, resVals, ResV.val, oneOr, wants, skipped, fillAt, putAt, capOf, optNat, bnd, Nat.reduceBEq, reduceIte, Nat.reduceAdd, Nat.reduceLeDiff, Nat.reduceEqDiff, Nat.reduceSub, Nat.reduceMul, Nat.reduceDiv, SOper.again, same, sameBlk, sameCap, Nat.reduceBneDiff, s_draw2, s_pair, k_pair, asunder, SOper.into, Bool.not_false, Bool.not_true, shutV_vRaws]) ?_
  refine (sizeRun 21 (Nat.le_refl _) l hl hf).mono fun n e1 H => ?_
  have h0 : (21 : Int) - (21 : Nat) = 0 := by decide
  rw [h0] at e1
  have hd : decide ((sizeR 21 l : Int) ≤ 60) = decide (sizeR 21 l ≤ 60) := by
    by_cases h : sizeR 21 l ≤ 60
    · rw [decide_eq_true h, decide_eq_true (by omega)]
    · rw [decide_eq_false h, decide_eq_false (by omega)]
  simp -implicitDefEqProofs only [c12, ↓v_lenS, SB, POp.val, AOp.val, WOp.val, Lite.bin, intBin, strBin, eqv, eqMany, eq1, AV.asBool, AV.asInt, AV.asNat, AV.asPtr, AV.asStr, resVals, ResV.val, oneOr, wants, skipped, fillAt, putAt, capOf, optNat, bnd, Nat.reduceBEq, reduceIte, Nat.reduceAdd, Nat.reduceLeDiff, Nat.reduceEqDiff, Nat.reduceSub, Nat.reduceMul, Nat.reduceDiv, SOper.again, same, sameBlk, sameCap, Nat.reduceBneDiff, s_draw2, s_pair, k_pair, asunder, SOper.into, Bool.not_false, Bool.not_true, CL, shutV_vRaws, e1, Ends, gives_ret, hd]
  exact ⟨_, rfl⟩

/-! ### What they make -/

theorem within_range (a n : Int) (hn : 0 < n) (hn' : n ≤ 4611686018427387904) : 0 ≤ within a n ∧ within a n < n := by
  unfold within
  have h1 := Int.tmod_lt_of_pos a hn
  have h2 : -n < a.tmod n := by
    have := Int.tmod_lt_of_pos (-a) hn
    rw [Int.neg_tmod] at this
    omega
  split
  · have : IntKind.i64.wrap (a.tmod n + n) = a.tmod n + n := wrap64 (by omega) (by omega)
    rw [this]; omega
  · omega

def tabI : List (List Nat) := [[48], [49], [45, 55], [52, 50], [49, 50, 51, 52, 53, 54, 55, 56, 57, 48, 49, 50, 51, 52, 53, 54, 55, 56, 57, 48, 49, 50, 51, 52, 53, 54, 55, 56, 57, 48]]
def tabB : List (List Nat) := [[35, 116], [35, 102]]
def tabS : List (List Nat) := [[97], [98], [120], [102], [43], [99, 97, 114], [46, 46, 46], [95], [108, 101, 116], [113, 117, 111, 116, 101], [97, 45, 62, 98]]

mutual
/-- a datum, of a raw one -/
def Raw.make : Raw → D
  | .mk k n l =>
    if within k 7 = 0 then .mk 1 (tabI.getD (within n 5).toNat []) [] [] 0
    else if within k 7 = 1 then .mk 2 (tabB.getD (within n 2).toNat []) [] [] 0
    else if within k 7 = 2 ∨ within k 7 = 3 then .mk 3 (tabS.getD (within n 11).toNat []) [] [] 0
    else .mk 4 [] [] (Raw.makes l) 0
def Raw.makes : List Raw → List D
  | [] => []
  | r :: rs => r.make :: Raw.makes rs
end

theorem makes_map (l : List Raw) : Raw.makes l = l.map Raw.make := by
  induction l with
  | nil => rfl
  | cons r l ih => rw [Raw.makes, ih]; rfl

theorem makes_take {l : List Raw} {i : Nat} {r : Raw} (h : l[i]? = some r) : Raw.makes (l.take (i + 1)) = Raw.makes (l.take i) ++ [r.make] := by
  rw [makes_map, makes_map, List.take_add_one, h]; simp

theorem flat_snoc {α : Type} {g : α → List AV} (l : List α) (x : α) : (l ++ [x]).flatMap g = l.flatMap g ++ g x := by simp

theorem tabI_at {j : Nat} (h : j < 5) : [AV.str [48], .str [49], .str [45, 55], .str [52, 50], .str [49, 50, 51, 52, 53, 54, 55, 56, 57, 48, 49, 50, 51, 52, 53, 54, 55, 56, 57, 48, 49, 50, 51, 52, 53, 54, 55, 56, 57, 48]][j]? = some (.str (tabI.getD j [])) := by
  match j, h with
  | 0, _ => rfl
  | 1, _ => rfl
  | 2, _ => rfl
  | 3, _ => rfl
  | 4, _ => rfl

theorem tabB_at {j : Nat} (h : j < 2) : [AV.str [35, 116], .str [35, 102]][j]? = some (.str (tabB.getD j [])) := by
  match j, h with
  | 0, _ => rfl
  | 1, _ => rfl

theorem tabS_at {j : Nat} (h : j < 11) : [AV.str [97], .str [98], .str [120], .str [102], .str [43], .str [99, 97, 114], .str [46, 46, 46], .str [95], .str [108, 101, 116], .str [113, 117, 111, 116, 101], .str [97, 45, 62, 98]][j]? = some (.str (tabS.getD j [])) := by
  match j, h with
  | 0, _ => rfl
  | 1, _ => rfl
  | 2, _ => rfl
  | 3, _ => rfl
  | 4, _ => rfl
  | 5, _ => rfl
  | 6, _ => rfl
  | 7, _ => rfl
  | 8, _ => rfl
  | 9, _ => rfl
  | 10, _ => rfl

theorem five_flat {k a : Int} {t : List Nat} {ms : List Int} {l : List D} : [AV.int .i64 k, .str t, vInts ms, vData l, .int .i64 a].all AV.flat = true := by
  simp only [List.all_cons, List.all_nil, fl_int, fl_str, fl_vInts, fl_vData, Bool.and_self]
theorem vInts_nil : vInts [] = .lst 0 0 true [] := rfl
theorem vData_nil : vData [] = .lst 0 0 true [] := rfl
theorem L_vData (l : List D) : AV.L true 5 (l.flatMap D.cells) l.length = vData l := rfl

theorem len_le_cnts (l : List Raw) : l.length ≤ Raw.cnts l := by
  induction l with
  | nil => simp
  | cons e l ih => cases e; simp only [Raw.cnts, Raw.cnt, List.length_cons]; omega
theorem cnt_mem {l : List Raw} {r : Raw} (h : r ∈ l) : r.cnt ≤ Raw.cnts l := by
  induction l with
  | nil => cases h
  | cons e l ih =>
    rw [Raw.cnts]
    rcases List.mem_cons.1 h with h1 | h1
    · rw [h1]; omega
    · have := ih h1; omega

theorem makes_len (l : List Raw) : (Raw.makes l).length = l.length := by rw [makes_map]; simp

theorem make30 : ∀ r : Raw, r.cnt ≤ 1048576 → Ret P2 30 [.agg r.cells] r.make.v := Raw.indA fun k q l ih hc => by
  rw [Raw.cnt] at hc
  have hll := len_le_cnts l
  rw [Raw.cells_mk]
  refine Ret.of rfl (code30 _ _) rfl rfl (fun H => by simp -implicitDefEqProofs only [↓v_lenS, SB, POp.val, AOp.val, WOp.val, Lite.bin, intBin, strBin, eqv, eqMany, eq1, AV.asBool, AV.asInt, AV.asNat, AV.asPtr, AV.asStr, resVals, ResV.val, oneOr, wants, skipped, fillAt, putAt, capOf, optNat, bnd, Nat.reduceBEq, reduceIte, Nat.reduceAdd, Nat.reduceLeDiff, Nat.reduceEqDiff, Nat.reduceSub, Nat.reduceMul, Nat.reduceDiv, SOper.again, same, sameBlk, sameCap, Nat.reduceBneDiff, s_draw2, s_pair, k_pair, asunder, SOper.into, Bool.not_false, Bool.not_true, shutC_vRaws]) ?_
  refine ((run20 k 7 (by decide)).and ((run20 q 5 (by decide)).and ((run20 q 2 (by decide)).and ((run20 q 11 (by decide)).and ((Ev.all l fun r hr => ih r hr (by have := cnt_mem hr; omega)).and (Ev.ge (l.length + 1))))))).mono fun n hn H => ?_
  obtain ⟨w7, w5, w2, w11, ihn, hge⟩ := hn
  rw [Raw.make]
  obtain ⟨w0, w1⟩ := within_range k 7 (by decide) (by decide)
  generalize within k 7 = w at *
  by_cases e0 : w = 0
  · obtain ⟨j0, j1⟩ := within_range q 5 (by decide) (by decide)
    have hj : (within q 5).toNat < 5 := by omega
    have hg := tabI_at hj
    subst e0
    rw [if_pos rfl, D.v_mk, vInts_nil, vData_nil]
    simp -implicitDefEqProofs only [c30, ↓v_lenS, SB, POp.val, AOp.val, WOp.val, Lite.bin, intBin, strBin, eqv, eqMany, eq1, AV.asBool, AV.asInt, AV.asNat, AV.asPtr, AV.asStr, resVals, ResV.val, oneOr, wants, skipped, fillAt, putAt, capOf, optNat, bnd, Nat.reduceBEq, reduceIte, Nat.reduceAdd, Nat.reduceLeDiff, Nat.reduceEqDiff, Nat.reduceSub, Nat.reduceMul, Nat.reduceDiv, SOper.again, same, sameBlk, sameCap, Nat.reduceBneDiff, s_draw2, s_pair, k_pair, asunder, SOper.into, Bool.not_false, Bool.not_true, CL, fl_vRaws, w7, w5, Int.reduceBEq, j0, hj, hg, iaddr_slice, Nat.mul_one, Ends, gives_ret]
    exact ⟨_, rfl⟩
  by_cases e1 : w = 1
  · obtain ⟨j0, j1⟩ := within_range q 2 (by decide) (by decide)
    have hj : (within q 2).toNat < 2 := by omega
    have hg := tabB_at hj
    subst e1
    rw [if_neg (by decide), if_pos rfl, D.v_mk, vInts_nil, vData_nil]
    simp -implicitDefEqProofs only [c30, ↓v_lenS, SB, POp.val, AOp.val, WOp.val, Lite.bin, intBin, strBin, eqv, eqMany, eq1, AV.asBool, AV.asInt, AV.asNat, AV.asPtr, AV.asStr, resVals, ResV.val, oneOr, wants, skipped, fillAt, putAt, capOf, optNat, bnd, Nat.reduceBEq, reduceIte, Nat.reduceAdd, Nat.reduceLeDiff, Nat.reduceEqDiff, Nat.reduceSub, Nat.reduceMul, Nat.reduceDiv, SOper.again, same, sameBlk, sameCap, Nat.reduceBneDiff, s_draw2, s_pair, k_pair, asunder, SOper.into, Bool.not_false, Bool.not_true, CL, fl_vRaws, w7, w2, Int.reduceBEq, j0, hj, hg, iaddr_slice, Nat.mul_one, Ends, gives_ret]
    exact ⟨_, rfl⟩
  by_cases e2 : w = 2 ∨ w = 3
  · obtain ⟨j0, j1⟩ := within_range q 11 (by decide) (by decide)
    have hj : (within q 11).toNat < 11 := by omega
    have hg := tabS_at hj
    rw [if_neg e0, if_neg e1, if_pos e2, D.v_mk, vInts_nil, vData_nil]
    rcases e2 with rfl | rfl
    all_goals simp -implicitDefEqProofs only [c30, ↓v_lenS, SB, POp.val, AOp.val, WOp.val, Lite.bin, intBin, strBin, eqv, eqMany, eq1, AV.asBool, AV.asInt, AV.asNat, AV.asPtr, AV.asStr, resVals, ResV.val, oneOr, wants, skipped, fillAt, putAt, capOf, optNat, bnd, Nat.reduceBEq, reduceIte, Nat.reduceAdd, Nat.reduceLeDiff, Nat.reduceEqDiff, Nat.reduceSub, Nat.reduceMul, Nat.reduceDiv, SOper.again, same, sameBlk, sameCap, Nat.reduceBneDiff, s_draw2, s_pair, k_pair, asunder, SOper.into, Bool.not_false, Bool.not_true, CL, fl_vRaws, w7, w11, Int.reduceBEq, j0, hj, hg, iaddr_slice, Nat.mul_one, Ends, gives_ret]
    all_goals exact ⟨_, rfl⟩
  · rw [if_neg e0, if_neg e1, if_neg e2]
    have q0 : (w == 0) = false := by simpa using e0
    have q1 : (w == 1) = false := by simpa using e1
    have q2 : (w == 2) = false := by simpa using fun h => e2 (.inl h)
    have q3 : (w == 3) = false := by simpa using fun h => e2 (.inr h)
    rw [D.v_mk]
    simp -implicitDefEqProofs only [c30, ↓v_lenS, SB, POp.val, AOp.val, WOp.val, Lite.bin, intBin, strBin, eqv, eqMany, eq1, AV.asBool, AV.asInt, AV.asNat, AV.asPtr, AV.asStr, resVals, ResV.val, oneOr, wants, skipped, fillAt, putAt, capOf, optNat, bnd, Nat.reduceBEq, reduceIte, Nat.reduceAdd, Nat.reduceLeDiff, Nat.reduceEqDiff, Nat.reduceSub, Nat.reduceMul, Nat.reduceDiv, SOper.again, same, sameBlk, sameCap, Nat.reduceBneDiff, s_draw2, s_pair, k_pair, asunder, SOper.into, Bool.not_false, Bool.not_true, CL, fl_vRaws, w7, q0, q1, q2, q3]
    refine loop_rounds l.length (fun i fr H => ∃ v, Acc 0 H 30 5 i ((Raw.makes (l.take i)).flatMap D.cells) v ∧ HLow H ∧ fr 1 = .ptr (.new 0) 0 ∧ fr 2 = .ptr (.new 1) 0 ∧ fr 3 = .ptr (.new 2) 0 ∧ fr 4 = .int .i64 i ∧
        H.t.get 0 = some (.row [.int .i64 k, .int .i64 q, vRaws l] 0 false (some 47)) ∧ H.t.get 1 = some (.row [.int .i64 0, .str [], .nils, .nils, .int .i64 0] 0 false (some 30)) ∧ H.t.get 2 = some (.row [.int .i64 4, .str [], .nils, v, .int .i64 0] 0 false (some 30))) ?_ ?_ n 0 _ _ (by omega) (by omega) ?_
    · rintro i fr H K' hi ⟨v, acc, low, h1, h2, h3, h4, g0, g1, g2⟩ hKe hKr hK
      obtain ⟨r, hr⟩ : ∃ r, l[i]? = some r := ⟨l[i], List.getElem?_eq_getElem hi⟩
      have e1 := ihn r (List.mem_of_getElem? hr)
      have hlt : (i : Int) < (l.length : Int) := by omega
      have hw := wrap_succ hi (by omega)
      have hmt := makes_take hr
      have fv := acc.flat
      generalize r.make = d at *
      obtain ⟨k', q', l'⟩ := r
      obtain ⟨kd, td, md, ld, ad⟩ := d
      rw [D.v_mk, Raw.cells_mk] at e1
      obtain ⟨v', H', happ, acc', kp, low'⟩ := (acc.push low (ob := .row [.int .i64 kd, .str td, vInts md, vData ld, .int .i64 ad] 0 true none)).more (e := 30) (bs := 80) (m := 1) (ys := [.int .i64 kd, .str td, vInts md, vData ld, .int .i64 ad]) (Nat.zero_le _) low.push (by decide) rfl five_flat (by omega)
      have hn0 := low.lt g2
      have n0 : ¬ 0 = H.n := by omega
      have n1 : ¬ 1 = H.n := by omega
      have n2 : ¬ 2 = H.n := by omega
      have g0' := (acc.push low).row (by decide) kp (j := 0) (by rw [h_get, if_neg n0]; exact g0)
      have g1' := (acc.push low).row (by decide) kp (j := 1) (by rw [h_get, if_neg n1]; exact g1)
      have g2' := (acc.push low).row (by decide) kp (j := 2) (by rw [h_get, if_neg n2]; exact g2)
      have fv' := acc'.flat
      simp -implicitDefEqProofs only [c30_l0, ↓v_lenS, SB, POp.val, AOp.val, WOp.val, Lite.bin, intBin, strBin, eqv, eqMany, eq1, AV.asBool, AV.asInt, AV.asNat, AV.asPtr, AV.asStr, resVals, ResV.val, oneOr, wants, skipped, fillAt, putAt, capOf, optNat, bnd, Nat.reduceBEq, reduceIte, Nat.reduceAdd, Nat.reduceLeDiff, Nat.reduceEqDiff, Nat.reduceSub, Nat.reduceMul, Nat.reduceDiv, SOper.again, same, sameBlk, sameCap, Nat.reduceBneDiff, s_draw2, s_pair, k_pair, asunder, SOper.into, Bool.not_false, Bool.not_true, CL, DS, h1, h3, h4, g0, g1, g2, hlt, iaddr_vRaws hr, Raw.cells_mk, len_vRaws, shutC_vRaws, e1, k_taken, happ, g2', fv', hw]
      refine hK _ _ ⟨v', ?_, low'.put (low'.lt g2'), ?_⟩
      · rw [hmt, flat_snoc, D.cells_mk]
        exact acc'.put (by decide) g2'
      · simp -implicitDefEqProofs only [↓v_lenS, SB, POp.val, AOp.val, WOp.val, Lite.bin, intBin, strBin, eqv, eqMany, eq1, AV.asBool, AV.asInt, AV.asNat, AV.asPtr, AV.asStr, resVals, ResV.val, oneOr, wants, skipped, fillAt, putAt, capOf, optNat, bnd, Nat.reduceBEq, reduceIte, Nat.reduceAdd, Nat.reduceLeDiff, Nat.reduceEqDiff, Nat.reduceSub, Nat.reduceMul, Nat.reduceDiv, SOper.again, same, sameBlk, sameCap, Nat.reduceBneDiff, s_draw2, s_pair, k_pair, asunder, SOper.into, Bool.not_false, Bool.not_true, h1, h2, h3, g0', g1']
    · rintro fr H K' ⟨v, acc, low, h1, h2, h3, h4, g0, g1, g2⟩ hKe hKr
      rw [List.take_length] at acc
      have fv := acc.flat
      have hne : (1 : Nat) < H.n := low.lt g1
      have acc2 := acc.put (k := 1) (by decide) g1 (ob := .row [.int .i64 4, .str [], .nils, v, .int .i64 0] 0 false (some 30))
      obtain ⟨H', hsh, kp⟩ := acc2.shut (d := 63) (by decide) (Still.flat D.still _)
      simp only [← makes_len l, L_vData] at hsh
      simp -implicitDefEqProofs only [c30_l0, ↓v_lenS, SB, POp.val, AOp.val, WOp.val, Lite.bin, intBin, strBin, eqv, eqMany, eq1, AV.asBool, AV.asInt, AV.asNat, AV.asPtr, AV.asStr, resVals, ResV.val, oneOr, wants, skipped, fillAt, putAt, capOf, optNat, bnd, Nat.reduceBEq, reduceIte, Nat.reduceAdd, Nat.reduceLeDiff, Nat.reduceEqDiff, Nat.reduceSub, Nat.reduceMul, Nat.reduceDiv, SOper.again, same, sameBlk, sameCap, Nat.reduceBneDiff, s_draw2, s_pair, k_pair, asunder, SOper.into, Bool.not_false, Bool.not_true, CL, DS, h1, h2, h3, h4, g0, g1, g2, Int.lt_irrefl, len_vRaws, hKe, Ends, gives_ret, fv, hsh, vInts_nil]
      exact ⟨_, rfl⟩
    · refine ⟨.nils, Acc.nil, ?_, ?_⟩
      · exact (((HLow.bare.push.push).push).put (by simp [h_n, h_nbare]))
      · simp -implicitDefEqProofs only [↓v_lenS, SB, POp.val, AOp.val, WOp.val, Lite.bin, intBin, strBin, eqv, eqMany, eq1, AV.asBool, AV.asInt, AV.asNat, AV.asPtr, AV.asStr, resVals, ResV.val, oneOr, wants, skipped, fillAt, putAt, capOf, optNat, bnd, Nat.reduceBEq, reduceIte, Nat.reduceAdd, Nat.reduceLeDiff, Nat.reduceEqDiff, Nat.reduceSub, Nat.reduceMul, Nat.reduceDiv, SOper.again, same, sameBlk, sameCap, Nat.reduceBneDiff, s_draw2, s_pair, k_pair, asunder, SOper.into, Bool.not_false, Bool.not_true]
        rfl

end Go.Lite
