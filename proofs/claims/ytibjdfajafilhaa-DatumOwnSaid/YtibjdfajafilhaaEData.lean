/-
  Data as Lean trees, and as the interpreter's values; seat r1's program as the interpreter takes it.
-/
import Derived.Test.YtibjdfajafilhaaLSimB
import Derived.Test.YtibjdfajafilhaaLClone
import Derived.Test.YtibjdfajafilhaaLBld
import Derived.Test.YtibjdfajafilhaaCode
namespace Go.Lite
open Go Go.Proofs
set_option maxRecDepth 100000
set_option linter.unusedSimpArgs false
set_option linter.unusedVariables false

inductive D where
  | mk (kind : Int) (text : List Nat) (marks : List Int) (l : List D) (pos : Int)

mutual
theorem D.indA {P : D → Prop} (h : ∀ k t ms l a, (∀ d ∈ l, P d) → P (.mk k t ms l a)) : ∀ d, P d
  | .mk k t ms l a => h k t ms l a (D.indB h l)
theorem D.indB {P : D → Prop} (h : ∀ k t ms l a, (∀ d ∈ l, P d) → P (.mk k t ms l a)) : ∀ l : List D, ∀ d ∈ l, P d
  | [], d, hd => by cases hd
  | e :: l, d, hd => by
    rcases List.mem_cons.1 hd with h1 | h1
    · rw [h1]; exact D.indA h e
    · exact D.indB h l d h1
end

/-- whole numbers as cells -/
def int1 (n : Int) : List AV := [.int .i64 n]
theorem int1_len (n : Int) : (int1 n).length = 1 := rfl
def vInts (ms : List Int) : AV := vList true 1 int1 ms

mutual
def D.cells : D → List AV
  | .mk k t ms l a => [.int .i64 k, .str t, vInts ms, .L true 5 (D.cellsL l) l.length, .int .i64 a]
def D.cellsL : List D → List AV
  | [] => []
  | d :: ds => d.cells ++ D.cellsL ds
end

theorem D.cellsL_eq (l : List D) : D.cellsL l = l.flatMap D.cells := by
  induction l with
  | nil => rfl
  | cons d l ih => rw [D.cellsL, ih, List.flatMap_cons]

/-- a list of data -/
def vData (l : List D) : AV := vList true 5 D.cells l

theorem D.cells_mk (k : Int) (t : List Nat) (ms : List Int) (l : List D) (a : Int) : (D.mk k t ms l a).cells = [.int .i64 k, .str t, vInts ms, vData l, .int .i64 a] := by
  rw [D.cells, D.cellsL_eq]; rfl

theorem D.cells_len (d : D) : d.cells.length = 5 := by cases d; rw [D.cells_mk]; rfl

/-- a datum -/
def D.v (d : D) : AV := .agg d.cells
theorem D.v_mk (k : Int) (t : List Nat) (ms : List Int) (l : List D) (a : Int) : (D.mk k t ms l a).v = .agg [.int .i64 k, .str t, vInts ms, vData l, .int .i64 a] := by
  rw [D.v, D.cells_mk]

theorem D.still (d : D) : Still d.cells := by
  cases d
  rw [D.cells_mk]
  exact .cons (fun _ _ => shutC_int) (.cons (fun _ _ => shutC_str) (.cons (fun _ _ => shutC_vList) (.cons (fun _ _ => shutC_vList) (.cons (fun _ _ => shutC_int) .nil))))

theorem D.shut {d : D} {H : Heap} : shutV d.v H = some (d.v, H) := by
  rw [D.v, shutV_agg, d.still.map]; rfl
theorem D.shutA {d : D} {H : Heap} : Lite.shutA d.v H = some (d.v, H) := by
  rw [D.v, shutA_agg, d.still.map]; rfl

theorem len_vInts {ms : List Int} : lenM (vInts ms) = some (.int .i64 ms.length) := len_vList
theorem len_vData {l : List D} : lenM (vData l) = some (.int .i64 l.length) := len_vList
theorem shutC_vInts {d : Nat} {ms : List Int} {H : Heap} : shutC d (vInts ms) H = some (vInts ms, H) := shutC_vList
theorem shutC_vData {d : Nat} {l : List D} {H : Heap} : shutC d (vData l) H = some (vData l, H) := shutC_vList
theorem shutV_vInts {ms : List Int} {H : Heap} : shutV (vInts ms) H = some (vInts ms, H) := shutV_vList
theorem shutV_vData {l : List D} {H : Heap} : shutV (vData l) H = some (vData l, H) := shutV_vList
theorem iaddr_vData {l : List D} {j : Nat} {d : D} (h : l[j]? = some d) : iaddrV 5 (vData l) j = some (.ptr (.val d.cells) 0) := iaddr_at D.cells_len h
theorem iaddr_vInts {l : List Int} {j : Nat} {d : Int} (h : l[j]? = some d) : iaddrV 1 (vInts l) j = some (.ptr (.val [.int .i64 d]) 0) := iaddr_at int1_len h
theorem fl_vList {α : Type} {f : Bool} {es : Nat} {g : α → List AV} {l : List α} : (vList f es g l).flat = true := by cases l <;> rfl
theorem fl_vInts {ms : List Int} : (vInts ms).flat = true := fl_vList
theorem fl_vData {l : List D} : (vData l).flat = true := fl_vList

theorem canon_vInts {ms : List Int} : keepK (vInts ms) = some (vInts ms) := keep_vList
theorem canon_vData {l : List D} : keepK (vData l) = some (vData l) := keep_vList
set_option linter.defProp false in
def DS := And.intro (And.intro @canon_vInts @canon_vData) <| And.intro @D.v_mk (And.intro @D.cells_mk (And.intro @D.shut (And.intro @D.shutA (And.intro @fl_vInts (And.intro @fl_vData (And.intro @len_vInts (And.intro @len_vData (And.intro @shutC_vInts (And.intro @shutC_vData (And.intro @shutV_vInts @shutV_vData))))))))))

def lies2 (t c o : Nat) : Bool := Nat.beq t 54 && Nat.beq c 2 && Nat.beq o 0
def own2 (f : FuncId) : Option (List AV → Heap → R) := bif Nat.beq f 38 then some (ownCheck lies2) else bif Nat.beq f 32 then some ownString else none
def mode2 : FuncId → Nat
  | 31 | 37 => 0
  | 16 => 1
  | 17 => 2
  | 18 => 3
  | 33 => 0
  | _ => 2
noncomputable def P2 : Prg := slimPrg Try.prog own2 mode2
theorem cl3 {n : Nat} {caps xs : List AV} {H : Heap} : callV (callN P2 n) (.func 3 caps) xs H = callS P2 n 3 (mapHM shutV (xs ++ caps) H) := callV_s rfl rfl
theorem cl4 {n : Nat} {caps xs : List AV} {H : Heap} : callV (callN P2 n) (.func 4 caps) xs H = callS P2 n 4 (mapHM shutV (xs ++ caps) H) := callV_s rfl rfl
theorem cl5 {n : Nat} {caps xs : List AV} {H : Heap} : callV (callN P2 n) (.func 5 caps) xs H = callS P2 n 5 (mapHM shutV (xs ++ caps) H) := callV_s rfl rfl
theorem cl6 {n : Nat} {caps xs : List AV} {H : Heap} : callV (callN P2 n) (.func 6 caps) xs H = callS P2 n 6 (mapHM shutV (xs ++ caps) H) := callV_s rfl rfl
theorem cl7 {n : Nat} {caps xs : List AV} {H : Heap} : callV (callN P2 n) (.func 7 caps) xs H = callS P2 n 7 (mapHM shutV (xs ++ caps) H) := callV_s rfl rfl
theorem cl8 {n : Nat} {caps xs : List AV} {H : Heap} : callV (callN P2 n) (.func 8 caps) xs H = callS P2 n 8 (mapHM shutV (xs ++ caps) H) := callV_s rfl rfl
theorem cl9 {n : Nat} {caps xs : List AV} {H : Heap} : callV (callN P2 n) (.func 9 caps) xs H = callS P2 n 9 (mapHM shutV (xs ++ caps) H) := callV_s rfl rfl
theorem cl10 {n : Nat} {caps xs : List AV} {H : Heap} : callV (callN P2 n) (.func 10 caps) xs H = callS P2 n 10 (mapHM shutV (xs ++ caps) H) := callV_s rfl rfl
theorem cl11 {n : Nat} {caps xs : List AV} {H : Heap} : callV (callN P2 n) (.func 11 caps) xs H = callS P2 n 11 (mapHM shutV (xs ++ caps) H) := callV_s rfl rfl
theorem cl12 {n : Nat} {caps xs : List AV} {H : Heap} : callV (callN P2 n) (.func 12 caps) xs H = callS P2 n 12 (mapHM shutV (xs ++ caps) H) := callV_s rfl rfl
theorem cl13 {n : Nat} {caps xs : List AV} {H : Heap} : callV (callN P2 n) (.func 13 caps) xs H = callS P2 n 13 (mapHM shutV (xs ++ caps) H) := callV_s rfl rfl
theorem cl14 {n : Nat} {caps xs : List AV} {H : Heap} : callV (callN P2 n) (.func 14 caps) xs H = callS P2 n 14 (mapHM shutV (xs ++ caps) H) := callV_s rfl rfl
theorem cl15 {n : Nat} {caps xs : List AV} {H : Heap} : callV (callN P2 n) (.func 15 caps) xs H = callS P2 n 15 (mapHM shutV (xs ++ caps) H) := callV_s rfl rfl
theorem cl16 {n : Nat} {caps xs : List AV} {H : Heap} : callV (callN P2 n) (.func 16 caps) xs H = call1S P2 n 16 (mapHM softV (xs ++ caps) H) := callV_1 rfl rfl
theorem cl17 {n : Nat} {caps xs : List AV} {H : Heap} : callV (callN P2 n) (.func 17 caps) xs H = callS P2 n 17 (mapHM shutV (xs ++ caps) H) := callV_s rfl rfl
theorem cl18 {n : Nat} {caps xs : List AV} {H : Heap} : callV (callN P2 n) (.func 18 caps) xs H = call3S P2 n 18 (mapHM softV (xs ++ caps) H) := callV_3 rfl rfl
theorem cl19 {n : Nat} {caps xs : List AV} {H : Heap} : callV (callN P2 n) (.func 19 caps) xs H = callS P2 n 19 (mapHM shutV (xs ++ caps) H) := callV_s rfl rfl
theorem cl20 {n : Nat} {caps xs : List AV} {H : Heap} : callV (callN P2 n) (.func 20 caps) xs H = callS P2 n 20 (mapHM shutV (xs ++ caps) H) := callV_s rfl rfl
theorem cl21 {n : Nat} {caps xs : List AV} {H : Heap} : callV (callN P2 n) (.func 21 caps) xs H = callS P2 n 21 (mapHM shutV (xs ++ caps) H) := callV_s rfl rfl
theorem cl22 {n : Nat} {caps xs : List AV} {H : Heap} : callV (callN P2 n) (.func 22 caps) xs H = callS P2 n 22 (mapHM shutV (xs ++ caps) H) := callV_s rfl rfl
theorem cl23 {n : Nat} {caps xs : List AV} {H : Heap} : callV (callN P2 n) (.func 23 caps) xs H = callS P2 n 23 (mapHM shutV (xs ++ caps) H) := callV_s rfl rfl
theorem cl24 {n : Nat} {caps xs : List AV} {H : Heap} : callV (callN P2 n) (.func 24 caps) xs H = callS P2 n 24 (mapHM shutV (xs ++ caps) H) := callV_s rfl rfl
theorem cl25 {n : Nat} {caps xs : List AV} {H : Heap} : callV (callN P2 n) (.func 25 caps) xs H = callS P2 n 25 (mapHM shutV (xs ++ caps) H) := callV_s rfl rfl
theorem cl26 {n : Nat} {caps xs : List AV} {H : Heap} : callV (callN P2 n) (.func 26 caps) xs H = callS P2 n 26 (mapHM shutV (xs ++ caps) H) := callV_s rfl rfl
theorem cl27 {n : Nat} {caps xs : List AV} {H : Heap} : callV (callN P2 n) (.func 27 caps) xs H = callS P2 n 27 (mapHM shutV (xs ++ caps) H) := callV_s rfl rfl
theorem cl28 {n : Nat} {caps xs : List AV} {H : Heap} : callV (callN P2 n) (.func 28 caps) xs H = callS P2 n 28 (mapHM shutV (xs ++ caps) H) := callV_s rfl rfl
theorem cl29 {n : Nat} {caps xs : List AV} {H : Heap} : callV (callN P2 n) (.func 29 caps) xs H = callS P2 n 29 (mapHM shutV (xs ++ caps) H) := callV_s rfl rfl
theorem cl30 {n : Nat} {caps xs : List AV} {H : Heap} : callV (callN P2 n) (.func 30 caps) xs H = callS P2 n 30 (mapHM shutV (xs ++ caps) H) := callV_s rfl rfl
theorem cl31 {n : Nat} {caps xs : List AV} {H : Heap} : callV (callN P2 n) (.func 31 caps) xs H = callN P2 n 31 (xs ++ caps) H := rfl
theorem cl32 {n : Nat} {caps xs : List AV} {H : Heap} : callV (callN P2 n) (.func 32 caps) xs H = callN P2 n 32 (xs ++ caps) H := rfl
theorem cl33 {n : Nat} {caps xs : List AV} {H : Heap} : callV (callN P2 n) (.func 33 caps) xs H = callN P2 n 33 (xs ++ caps) H := rfl
theorem cl34 {n : Nat} {caps xs : List AV} {H : Heap} : callV (callN P2 n) (.func 34 caps) xs H = callS P2 n 34 (mapHM shutV (xs ++ caps) H) := callV_s rfl rfl
theorem cl35 {n : Nat} {caps xs : List AV} {H : Heap} : callV (callN P2 n) (.func 35 caps) xs H = callS P2 n 35 (mapHM shutV (xs ++ caps) H) := callV_s rfl rfl
theorem cl36 {n : Nat} {caps xs : List AV} {H : Heap} : callV (callN P2 n) (.func 36 caps) xs H = callS P2 n 36 (mapHM shutV (xs ++ caps) H) := callV_s rfl rfl
theorem cl37 {n : Nat} {caps xs : List AV} {H : Heap} : callV (callN P2 n) (.func 37 caps) xs H = callN P2 n 37 (xs ++ caps) H := rfl
theorem cl38 {n : Nat} {caps xs : List AV} {H : Heap} : callV (callN P2 n) (.func 38 caps) xs H = callN P2 n 38 (xs ++ caps) H := rfl
set_option linter.defProp false in
def CL := (And.intro (And.intro (And.intro (And.intro (And.intro @cl3 @cl4) (And.intro @cl5 @cl6)) (And.intro (And.intro @cl7 @cl8) (And.intro @cl9 (And.intro @cl10 @cl11)))) (And.intro (And.intro (And.intro @cl12 @cl13) (And.intro @cl14 @cl15)) (And.intro (And.intro @cl16 @cl17) (And.intro @cl18 (And.intro @cl19 @cl20))))) (And.intro (And.intro (And.intro (And.intro @cl21 @cl22) (And.intro @cl23 @cl24)) (And.intro (And.intro @cl25 @cl26) (And.intro @cl27 (And.intro @cl28 @cl29)))) (And.intro (And.intro (And.intro @cl30 @cl31) (And.intro @cl32 @cl33)) (And.intro (And.intro @cl34 @cl35) (And.intro @cl36 (And.intro @cl37 @cl38))))))

/-- a number brought to 0 .. n - 1, as the program does it -/
def within (a n : Int) : Int := if a.tmod n < 0 then IntKind.i64.wrap (a.tmod n + n) else a.tmod n

theorem run20 (a b : Int) (hb : b ≠ 0) : Ret P2 20 [.int .i64 a, .int .i64 b] (.int .i64 (within a b)) := by
  refine Ret.of rfl (code20 _ _) rfl rfl (fun H => by simp -implicitDefEqProofs only [↓v_lenS, SB, POp.val, AOp.val, WOp.val, Lite.bin, intBin, strBin, eqv, eqMany, eq1, AV.asBool, AV.asInt, AV.asNat, AV.asPtr, AV.asStr, resVals, ResV.val, oneOr, wants, skipped, fillAt, putAt, capOf, optNat, bnd, Nat.reduceBEq, reduceIte, Nat.reduceAdd, Nat.reduceLeDiff, Nat.reduceEqDiff, Nat.reduceSub, Nat.reduceMul, Nat.reduceDiv, SOper.again, same, sameBlk, sameCap, Nat.reduceBneDiff, s_draw2, s_pair, k_pair, asunder, SOper.into, Bool.not_false, Bool.not_true]) (Ev.of fun n H => ?_)
  unfold within
  by_cases h : a.tmod b < 0
  all_goals simp -implicitDefEqProofs only [c20, ↓v_lenS, SB, POp.val, AOp.val, WOp.val, Lite.bin, intBin, strBin, eqv, eqMany, eq1, AV.asBool, AV.asInt, AV.asNat, AV.asPtr, AV.asStr, resVals, ResV.val, oneOr, wants, skipped, fillAt, putAt, capOf, optNat, bnd, Nat.reduceBEq, reduceIte, Nat.reduceAdd, Nat.reduceLeDiff, Nat.reduceEqDiff, Nat.reduceSub, Nat.reduceMul, Nat.reduceDiv, SOper.again, same, sameBlk, sameCap, Nat.reduceBneDiff, s_draw2, s_pair, k_pair, asunder, SOper.into, Bool.not_false, Bool.not_true, if_neg, if_pos, hb, h, Ends, gives_ret]
  all_goals exact ⟨_, rfl⟩

/-! ### Sizes -/

mutual
/-- how many -/
def D.size : D → Nat
  | .mk _ _ _ l _ => 1 + D.sizes l
def D.sizes : List D → Nat
  | [] => 0
  | d :: ds => d.size + D.sizes ds
end

theorem D.sizes_append (a b : List D) : D.sizes (a ++ b) = D.sizes a + D.sizes b := by
  induction a with
  | nil => simp [D.sizes]
  | cons e l ih => simp only [List.cons_append, D.sizes, ih]; omega

theorem D.sizes_take {l : List D} {i : Nat} {d : D} (h : l[i]? = some d) : D.sizes (l.take (i + 1)) = D.sizes (l.take i) + d.size := by
  rw [List.take_add_one, h, Option.toList_some, D.sizes_append]
  simp [D.sizes]

theorem D.sizes_take_le (l : List D) (i : Nat) : D.sizes (l.take i) ≤ D.sizes l := by
  conv => rhs; rw [← List.take_append_drop i l, D.sizes_append]
  omega

theorem D.len_le_sizes (l : List D) : l.length ≤ D.sizes l := by
  induction l with
  | nil => simp
  | cons e l ih => cases e; simp only [D.sizes, D.size, List.length_cons]; omega

theorem size15 : ∀ d : D, d.size ≤ 1099511627776 → Ret P2 15 [d.v] (.int .i64 d.size) := D.indA fun k t ms l a ih hsz => by
  rw [D.size] at hsz ⊢
  have hl := D.len_le_sizes l
  have hm : ∀ d ∈ l, d.size ≤ D.sizes l := fun d hd => by
    obtain ⟨i, hi, rfl⟩ := List.getElem_of_mem hd
    have h1 := D.sizes_take (List.getElem?_eq_getElem hi)
    have h2 := D.sizes_take_le l (i + 1)
    omega
  refine Ret.of rfl (code15 _ _) rfl rfl (fun H => by simp -implicitDefEqProofs only [mapHM_nil, mapHM_cons, D.shut, Option.bind_some, Option.map_some]) ?_
  refine ((Ev.all l fun d hd => ih d hd (by have := hm d hd; omega)).and (Ev.ge (l.length + 1))).mono fun n hn H => ?_
  obtain ⟨ihn, hge⟩ := hn
  simp -implicitDefEqProofs only [c15, D.v_mk, ↓v_lenS, SB, POp.val, AOp.val, WOp.val, Lite.bin, intBin, strBin, eqv, eqMany, eq1, AV.asBool, AV.asInt, AV.asNat, AV.asPtr, AV.asStr, resVals, ResV.val, oneOr, wants, skipped, fillAt, putAt, capOf, optNat, bnd, Nat.reduceBEq, reduceIte, Nat.reduceAdd, Nat.reduceLeDiff, Nat.reduceEqDiff, Nat.reduceSub, Nat.reduceMul, Nat.reduceDiv, SOper.again, same, sameBlk, sameCap, Nat.reduceBneDiff, s_draw2, s_pair, k_pair, asunder, SOper.into, Bool.not_false, Bool.not_true, fl_vInts, fl_vData, len_vData]
  refine loop_rounds l.length (fun i fr H => fr 7 = vData l ∧ fr 8 = .int .i64 l.length ∧ fr 9 = .int .i64 i ∧ fr 3 = .int .i64 (1 + D.sizes (l.take i) : Nat)) ?_ ?_ n 0 _ _ (by omega) (by omega) ?_
  · rintro i fr H K' hi ⟨h7, h8, h9, h3⟩ hKe hKr hK
    obtain ⟨d, hd⟩ : ∃ d, l[i]? = some d := ⟨l[i], List.getElem?_eq_getElem hi⟩
    have e1 := ihn d (List.mem_of_getElem? hd)
    have hlt : (i : Int) < (l.length : Int) := by omega
    have hw := wrap_succ hi (by omega)
    have hs := D.sizes_take hd
    have hw2 : IntKind.i64.wrap (((1 + D.sizes (l.take i) : Nat) : Int) + (d.size : Int)) = ((1 + D.sizes (l.take (i + 1)) : Nat) : Int) := by
      have := D.sizes_take_le l (i + 1)
      rw [wrap_nat (by omega)]
      congr 1; omega
    obtain ⟨kd, td, md, ld, ad⟩ := d
    rw [D.v_mk] at e1
    simp -implicitDefEqProofs only [c15_l0, ↓v_lenS, SB, POp.val, AOp.val, WOp.val, Lite.bin, intBin, strBin, eqv, eqMany, eq1, AV.asBool, AV.asInt, AV.asNat, AV.asPtr, AV.asStr, resVals, ResV.val, oneOr, wants, skipped, fillAt, putAt, capOf, optNat, bnd, Nat.reduceBEq, reduceIte, Nat.reduceAdd, Nat.reduceLeDiff, Nat.reduceEqDiff, Nat.reduceSub, Nat.reduceMul, Nat.reduceDiv, SOper.again, same, sameBlk, sameCap, Nat.reduceBneDiff, s_draw2, s_pair, k_pair, asunder, SOper.into, Bool.not_false, Bool.not_true, h7, h8, h9, h3, hlt, iaddr_vData hd, DS, CL, e1, hw, hw2]
    refine hK _ _ ?_
    simp -implicitDefEqProofs only [↓v_lenS, SB, POp.val, AOp.val, WOp.val, Lite.bin, intBin, strBin, eqv, eqMany, eq1, AV.asBool, AV.asInt, AV.asNat, AV.asPtr, AV.asStr, resVals, ResV.val, oneOr, wants, skipped, fillAt, putAt, capOf, optNat, bnd, Nat.reduceBEq, reduceIte, Nat.reduceAdd, Nat.reduceLeDiff, Nat.reduceEqDiff, Nat.reduceSub, Nat.reduceMul, Nat.reduceDiv, SOper.again, same, sameBlk, sameCap, Nat.reduceBneDiff, s_draw2, s_pair, k_pair, asunder, SOper.into, Bool.not_false, Bool.not_true, h7, h8]
  · rintro fr H K' ⟨h7, h8, h9, h3⟩ hKe hKr
    simp -implicitDefEqProofs only [c15_l0, ↓v_lenS, SB, POp.val, AOp.val, WOp.val, Lite.bin, intBin, strBin, eqv, eqMany, eq1, AV.asBool, AV.asInt, AV.asNat, AV.asPtr, AV.asStr, resVals, ResV.val, oneOr, wants, skipped, fillAt, putAt, capOf, optNat, bnd, Nat.reduceBEq, reduceIte, Nat.reduceAdd, Nat.reduceLeDiff, Nat.reduceEqDiff, Nat.reduceSub, Nat.reduceMul, Nat.reduceDiv, SOper.again, same, sameBlk, sameCap, Nat.reduceBneDiff, s_draw2, s_pair, k_pair, asunder, SOper.into, Bool.not_false, Bool.not_true, h7, h8, h9, h3, Int.lt_irrefl, hKe, List.take_length, gives_ret]
    exact ⟨_, rfl⟩
  · simp -implicitDefEqProofs only [↓v_lenS, SB, POp.val, AOp.val, WOp.val, Lite.bin, intBin, strBin, eqv, eqMany, eq1, AV.asBool, AV.asInt, AV.asNat, AV.asPtr, AV.asStr, resVals, ResV.val, oneOr, wants, skipped, fillAt, putAt, capOf, optNat, bnd, Nat.reduceBEq, reduceIte, Nat.reduceAdd, Nat.reduceLeDiff, Nat.reduceEqDiff, Nat.reduceSub, Nat.reduceMul, Nat.reduceDiv, SOper.again, same, sameBlk, sameCap, Nat.reduceBneDiff, s_draw2, s_pair, k_pair, asunder, SOper.into, Bool.not_false, Bool.not_true, List.take_zero, D.sizes]
    exact ⟨rfl, rfl⟩

end Go.Lite
