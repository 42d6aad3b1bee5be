/-
  Several texts in one: NData, NSame, NIs, NNum, NName, NPure, NChain, NNorm, NNormB, NRefA, NRef, NRefB, NLawA, NLawB, NKnown, NRaw, NMakeA.
-/
import Derived.Test.YtlncgbcclmhicaaDoorQbA
import Derived.Test.YtlncgbcclmhicaaDoorQc

/-
  Terms as Lean trees, and as the interpreter's values; seat r2's program as the interpreter takes it.
-/
namespace Go.Lite
open Go Go.Proofs
set_option maxRecDepth 100000
set_option linter.unusedSimpArgs false
set_option linter.unusedVariables false

abbrev Str := List Nat

inductive X where
  | mk (kind : Int) (text : Str) (names : List Str) (a : List X)

mutual
theorem X.indA {P : X → Prop} (h : ∀ k t ns a, (∀ x ∈ a, P x) → P (.mk k t ns a)) : ∀ x, P x
  | .mk k t ns a => h k t ns a (X.indB h a)
theorem X.indB {P : X → Prop} (h : ∀ k t ns a, (∀ x ∈ a, P x) → P (.mk k t ns a)) : ∀ l : List X, ∀ x ∈ l, P x
  | [], x, hx => by cases hx
  | e :: l, x, hx => by
    rcases List.mem_cons.1 hx with h1 | h1
    · rw [h1]; exact X.indA h e
    · exact X.indB h l x h1
end

/-- texts as cells -/
def str1 (s : Str) : List AV := [.str s]
theorem str1_len (s : Str) : (str1 s).length = 1 := rfl
def vStrs (ns : List Str) : AV := vList true 1 str1 ns

mutual
def X.cells : X → List AV
  | .mk k t ns a => [.int .i64 k, .str t, vStrs ns, .L true 4 (X.cellsL a) a.length]
def X.cellsL : List X → List AV
  | [] => []
  | x :: xs => x.cells ++ X.cellsL xs
end

theorem X.cellsL_eq (l : List X) : X.cellsL l = l.flatMap X.cells := by
  induction l with
  | nil => rfl
  | cons d l ih => rw [X.cellsL, ih, List.flatMap_cons]

/-- a list of terms -/
def vXs (l : List X) : AV := vList true 4 X.cells l

theorem X.cells_mk (k : Int) (t : Str) (ns : List Str) (a : List X) : (X.mk k t ns a).cells = [.int .i64 k, .str t, vStrs ns, vXs a] := by
  rw [X.cells, X.cellsL_eq]; rfl

theorem X.cells_len (x : X) : x.cells.length = 4 := by cases x; rw [X.cells_mk]; rfl

/-- a term -/
def X.v (x : X) : AV := .agg x.cells
theorem X.v_mk (k : Int) (t : Str) (ns : List Str) (a : List X) : (X.mk k t ns a).v = .agg [.int .i64 k, .str t, vStrs ns, vXs a] := by
  rw [X.v, X.cells_mk]

theorem X.still (x : X) : Still x.cells := by
  cases x
  rw [X.cells_mk]
  exact .cons (fun _ _ => shutC_int) (.cons (fun _ _ => shutC_str) (.cons (fun _ _ => shutC_vList) (.cons (fun _ _ => shutC_vList) .nil)))

theorem X.shut {x : X} {H : Heap} : shutV x.v H = some (x.v, H) := by
  rw [X.v, shutV_agg, x.still.map]; rfl
theorem X.shutA {x : X} {H : Heap} : Lite.shutA x.v H = some (x.v, H) := by
  rw [X.v, shutA_agg, x.still.map]; rfl

theorem str1_still (s : Str) : Still (str1 s) := Still.str _
theorem str1_flat (s : Str) : (str1 s).all AV.flat = true := rfl
theorem fl_vListX {α : Type} {f : Bool} {es : Nat} {g : α → List AV} {l : List α} : (vList f es g l).flat = true := by cases l <;> rfl
theorem len_vStrs {ns : List Str} : lenM (vStrs ns) = some (.int .i64 ns.length) := len_vList
theorem len_vXs {l : List X} : lenM (vXs l) = some (.int .i64 l.length) := len_vList
theorem shutC_vStrs {d : Nat} {ns : List Str} {H : Heap} : shutC d (vStrs ns) H = some (vStrs ns, H) := shutC_vList
theorem shutC_vXs {d : Nat} {l : List X} {H : Heap} : shutC d (vXs l) H = some (vXs l, H) := shutC_vList
theorem shutV_vStrs {ns : List Str} {H : Heap} : shutV (vStrs ns) H = some (vStrs ns, H) := shutV_vList
theorem shutV_vXs {l : List X} {H : Heap} : shutV (vXs l) H = some (vXs l, H) := shutV_vList
theorem iaddr_vXs {l : List X} {j : Nat} {d : X} (h : l[j]? = some d) : iaddrV 4 (vXs l) j = some (.ptr (.val d.cells) 0) := iaddr_at X.cells_len h
theorem iaddr_vStrs {l : List Str} {j : Nat} {d : Str} (h : l[j]? = some d) : iaddrV 1 (vStrs l) j = some (.ptr (.val [.str d]) 0) := iaddr_at str1_len h
theorem fl_vStrs {ns : List Str} : (vStrs ns).flat = true := fl_vListX
theorem fl_vXs {l : List X} : (vXs l).flat = true := fl_vListX
theorem canon_vStrs {ns : List Str} : keepK (vStrs ns) = some (vStrs ns) := keep_vList
theorem canon_vXs {l : List X} : keepK (vXs l) = some (vXs l) := keep_vList
theorem vXs_nil : vXs [] = .lst 0 0 true [] := rfl
theorem vStrs_nil : vStrs [] = .lst 0 0 true [] := rfl
theorem four_flat {k : Int} {t : Str} {ns : List Str} {a : List X} : [AV.int .i64 k, .str t, vStrs ns, vXs a].all AV.flat = true := by
  simp only [List.all_cons, List.all_nil, fl_vStrs, fl_vXs, fl_int, fl_str, Bool.and_true]
theorem X.flat (x : X) : x.cells.all AV.flat = true := by cases x; rw [X.cells_mk]; exact four_flat
theorem L_vXs (l : List X) : AV.L true 4 (l.flatMap X.cells) l.length = vXs l := rfl
theorem L_vStrs (l : List Str) : AV.L true 1 (l.flatMap str1) l.length = vStrs l := rfl

set_option linter.defProp false in
def XS := And.intro (And.intro @canon_vStrs @canon_vXs) <| And.intro @X.v_mk (And.intro @X.cells_mk (And.intro @X.shut (And.intro @X.shutA (And.intro @fl_vStrs (And.intro @fl_vXs (And.intro @len_vStrs (And.intro @len_vXs (And.intro @shutC_vStrs (And.intro @shutC_vXs (And.intro @shutV_vStrs @shutV_vXs))))))))))

def own3 (f : FuncId) : Option (List AV → Heap → R) := bif Nat.beq f 49 then some (ownClone 1 16) else bif Nat.beq f 51 then some (ownClone 4 72) else none
def mode3 : FuncId → Nat
  | 30 | 31 | 38 | 39 | 46 | 50 | 52 => 1
  | 22 | 49 | 51 => 0
  | _ => 2
noncomputable def P3 : Prg := slimPrg Tryd.prog own3 mode3
theorem cl3 {n : Nat} {caps xs : List AV} {H : Heap} : callV (callN P3 n) (.func 3 caps) xs H = callS P3 n 3 (mapHM shutV (xs ++ caps) H) := callV_s rfl rfl
theorem cl4 {n : Nat} {caps xs : List AV} {H : Heap} : callV (callN P3 n) (.func 4 caps) xs H = callS P3 n 4 (mapHM shutV (xs ++ caps) H) := callV_s rfl rfl
theorem cl5 {n : Nat} {caps xs : List AV} {H : Heap} : callV (callN P3 n) (.func 5 caps) xs H = callS P3 n 5 (mapHM shutV (xs ++ caps) H) := callV_s rfl rfl
theorem cl6 {n : Nat} {caps xs : List AV} {H : Heap} : callV (callN P3 n) (.func 6 caps) xs H = callS P3 n 6 (mapHM shutV (xs ++ caps) H) := callV_s rfl rfl
theorem cl7 {n : Nat} {caps xs : List AV} {H : Heap} : callV (callN P3 n) (.func 7 caps) xs H = callS P3 n 7 (mapHM shutV (xs ++ caps) H) := callV_s rfl rfl
theorem cl8 {n : Nat} {caps xs : List AV} {H : Heap} : callV (callN P3 n) (.func 8 caps) xs H = callS P3 n 8 (mapHM shutV (xs ++ caps) H) := callV_s rfl rfl
theorem cl9 {n : Nat} {caps xs : List AV} {H : Heap} : callV (callN P3 n) (.func 9 caps) xs H = callS P3 n 9 (mapHM shutV (xs ++ caps) H) := callV_s rfl rfl
theorem cl10 {n : Nat} {caps xs : List AV} {H : Heap} : callV (callN P3 n) (.func 10 caps) xs H = callS P3 n 10 (mapHM shutV (xs ++ caps) H) := callV_s rfl rfl
theorem cl11 {n : Nat} {caps xs : List AV} {H : Heap} : callV (callN P3 n) (.func 11 caps) xs H = callS P3 n 11 (mapHM shutV (xs ++ caps) H) := callV_s rfl rfl
theorem cl12 {n : Nat} {caps xs : List AV} {H : Heap} : callV (callN P3 n) (.func 12 caps) xs H = callS P3 n 12 (mapHM shutV (xs ++ caps) H) := callV_s rfl rfl
theorem cl13 {n : Nat} {caps xs : List AV} {H : Heap} : callV (callN P3 n) (.func 13 caps) xs H = callS P3 n 13 (mapHM shutV (xs ++ caps) H) := callV_s rfl rfl
theorem cl14 {n : Nat} {caps xs : List AV} {H : Heap} : callV (callN P3 n) (.func 14 caps) xs H = callS P3 n 14 (mapHM shutV (xs ++ caps) H) := callV_s rfl rfl
theorem cl15 {n : Nat} {caps xs : List AV} {H : Heap} : callV (callN P3 n) (.func 15 caps) xs H = callS P3 n 15 (mapHM shutV (xs ++ caps) H) := callV_s rfl rfl
theorem cl16 {n : Nat} {caps xs : List AV} {H : Heap} : callV (callN P3 n) (.func 16 caps) xs H = callS P3 n 16 (mapHM shutV (xs ++ caps) H) := callV_s rfl rfl
theorem cl17 {n : Nat} {caps xs : List AV} {H : Heap} : callV (callN P3 n) (.func 17 caps) xs H = callS P3 n 17 (mapHM shutV (xs ++ caps) H) := callV_s rfl rfl
theorem cl18 {n : Nat} {caps xs : List AV} {H : Heap} : callV (callN P3 n) (.func 18 caps) xs H = callS P3 n 18 (mapHM shutV (xs ++ caps) H) := callV_s rfl rfl
theorem cl19 {n : Nat} {caps xs : List AV} {H : Heap} : callV (callN P3 n) (.func 19 caps) xs H = callS P3 n 19 (mapHM shutV (xs ++ caps) H) := callV_s rfl rfl
theorem cl20 {n : Nat} {caps xs : List AV} {H : Heap} : callV (callN P3 n) (.func 20 caps) xs H = callS P3 n 20 (mapHM shutV (xs ++ caps) H) := callV_s rfl rfl
theorem cl21 {n : Nat} {caps xs : List AV} {H : Heap} : callV (callN P3 n) (.func 21 caps) xs H = callS P3 n 21 (mapHM shutV (xs ++ caps) H) := callV_s rfl rfl
theorem cl22 {n : Nat} {caps xs : List AV} {H : Heap} : callV (callN P3 n) (.func 22 caps) xs H = callN P3 n 22 (xs ++ caps) H := rfl
theorem cl23 {n : Nat} {caps xs : List AV} {H : Heap} : callV (callN P3 n) (.func 23 caps) xs H = callS P3 n 23 (mapHM shutV (xs ++ caps) H) := callV_s rfl rfl
theorem cl24 {n : Nat} {caps xs : List AV} {H : Heap} : callV (callN P3 n) (.func 24 caps) xs H = callS P3 n 24 (mapHM shutV (xs ++ caps) H) := callV_s rfl rfl
theorem cl25 {n : Nat} {caps xs : List AV} {H : Heap} : callV (callN P3 n) (.func 25 caps) xs H = callS P3 n 25 (mapHM shutV (xs ++ caps) H) := callV_s rfl rfl
theorem cl26 {n : Nat} {caps xs : List AV} {H : Heap} : callV (callN P3 n) (.func 26 caps) xs H = callS P3 n 26 (mapHM shutV (xs ++ caps) H) := callV_s rfl rfl
theorem cl27 {n : Nat} {caps xs : List AV} {H : Heap} : callV (callN P3 n) (.func 27 caps) xs H = callS P3 n 27 (mapHM shutV (xs ++ caps) H) := callV_s rfl rfl
theorem cl28 {n : Nat} {caps xs : List AV} {H : Heap} : callV (callN P3 n) (.func 28 caps) xs H = callS P3 n 28 (mapHM shutV (xs ++ caps) H) := callV_s rfl rfl
theorem cl29 {n : Nat} {caps xs : List AV} {H : Heap} : callV (callN P3 n) (.func 29 caps) xs H = callS P3 n 29 (mapHM shutV (xs ++ caps) H) := callV_s rfl rfl
theorem cl30 {n : Nat} {caps xs : List AV} {H : Heap} : callV (callN P3 n) (.func 30 caps) xs H = call1S P3 n 30 (mapHM softV (xs ++ caps) H) := callV_1 rfl rfl
theorem cl31 {n : Nat} {caps xs : List AV} {H : Heap} : callV (callN P3 n) (.func 31 caps) xs H = call1S P3 n 31 (mapHM softV (xs ++ caps) H) := callV_1 rfl rfl
theorem cl32 {n : Nat} {caps xs : List AV} {H : Heap} : callV (callN P3 n) (.func 32 caps) xs H = callS P3 n 32 (mapHM shutV (xs ++ caps) H) := callV_s rfl rfl
theorem cl33 {n : Nat} {caps xs : List AV} {H : Heap} : callV (callN P3 n) (.func 33 caps) xs H = callS P3 n 33 (mapHM shutV (xs ++ caps) H) := callV_s rfl rfl
theorem cl34 {n : Nat} {caps xs : List AV} {H : Heap} : callV (callN P3 n) (.func 34 caps) xs H = callS P3 n 34 (mapHM shutV (xs ++ caps) H) := callV_s rfl rfl
theorem cl35 {n : Nat} {caps xs : List AV} {H : Heap} : callV (callN P3 n) (.func 35 caps) xs H = callS P3 n 35 (mapHM shutV (xs ++ caps) H) := callV_s rfl rfl
theorem cl36 {n : Nat} {caps xs : List AV} {H : Heap} : callV (callN P3 n) (.func 36 caps) xs H = callS P3 n 36 (mapHM shutV (xs ++ caps) H) := callV_s rfl rfl
theorem cl37 {n : Nat} {caps xs : List AV} {H : Heap} : callV (callN P3 n) (.func 37 caps) xs H = callS P3 n 37 (mapHM shutV (xs ++ caps) H) := callV_s rfl rfl
theorem cl38 {n : Nat} {caps xs : List AV} {H : Heap} : callV (callN P3 n) (.func 38 caps) xs H = call1S P3 n 38 (mapHM softV (xs ++ caps) H) := callV_1 rfl rfl
theorem cl39 {n : Nat} {caps xs : List AV} {H : Heap} : callV (callN P3 n) (.func 39 caps) xs H = call1S P3 n 39 (mapHM softV (xs ++ caps) H) := callV_1 rfl rfl
theorem cl40 {n : Nat} {caps xs : List AV} {H : Heap} : callV (callN P3 n) (.func 40 caps) xs H = callS P3 n 40 (mapHM shutV (xs ++ caps) H) := callV_s rfl rfl
theorem cl41 {n : Nat} {caps xs : List AV} {H : Heap} : callV (callN P3 n) (.func 41 caps) xs H = callS P3 n 41 (mapHM shutV (xs ++ caps) H) := callV_s rfl rfl
theorem cl42 {n : Nat} {caps xs : List AV} {H : Heap} : callV (callN P3 n) (.func 42 caps) xs H = callS P3 n 42 (mapHM shutV (xs ++ caps) H) := callV_s rfl rfl
theorem cl43 {n : Nat} {caps xs : List AV} {H : Heap} : callV (callN P3 n) (.func 43 caps) xs H = callS P3 n 43 (mapHM shutV (xs ++ caps) H) := callV_s rfl rfl
theorem cl44 {n : Nat} {caps xs : List AV} {H : Heap} : callV (callN P3 n) (.func 44 caps) xs H = callS P3 n 44 (mapHM shutV (xs ++ caps) H) := callV_s rfl rfl
theorem cl45 {n : Nat} {caps xs : List AV} {H : Heap} : callV (callN P3 n) (.func 45 caps) xs H = callS P3 n 45 (mapHM shutV (xs ++ caps) H) := callV_s rfl rfl
theorem cl46 {n : Nat} {caps xs : List AV} {H : Heap} : callV (callN P3 n) (.func 46 caps) xs H = call1S P3 n 46 (mapHM softV (xs ++ caps) H) := callV_1 rfl rfl
theorem cl47 {n : Nat} {caps xs : List AV} {H : Heap} : callV (callN P3 n) (.func 47 caps) xs H = callS P3 n 47 (mapHM shutV (xs ++ caps) H) := callV_s rfl rfl
theorem cl48 {n : Nat} {caps xs : List AV} {H : Heap} : callV (callN P3 n) (.func 48 caps) xs H = callS P3 n 48 (mapHM shutV (xs ++ caps) H) := callV_s rfl rfl
theorem cl49 {n : Nat} {caps xs : List AV} {H : Heap} : callV (callN P3 n) (.func 49 caps) xs H = callN P3 n 49 (xs ++ caps) H := rfl
theorem cl50 {n : Nat} {caps xs : List AV} {H : Heap} : callV (callN P3 n) (.func 50 caps) xs H = call1S P3 n 50 (mapHM softV (xs ++ caps) H) := callV_1 rfl rfl
theorem cl51 {n : Nat} {caps xs : List AV} {H : Heap} : callV (callN P3 n) (.func 51 caps) xs H = callN P3 n 51 (xs ++ caps) H := rfl
theorem cl52 {n : Nat} {caps xs : List AV} {H : Heap} : callV (callN P3 n) (.func 52 caps) xs H = call1S P3 n 52 (mapHM softV (xs ++ caps) H) := callV_1 rfl rfl
theorem cl53 {n : Nat} {caps xs : List AV} {H : Heap} : callV (callN P3 n) (.func 53 caps) xs H = callS P3 n 53 (mapHM shutV (xs ++ caps) H) := callV_s rfl rfl
theorem cl54 {n : Nat} {caps xs : List AV} {H : Heap} : callV (callN P3 n) (.func 54 caps) xs H = callS P3 n 54 (mapHM shutV (xs ++ caps) H) := callV_s rfl rfl
theorem cl55 {n : Nat} {caps xs : List AV} {H : Heap} : callV (callN P3 n) (.func 55 caps) xs H = callS P3 n 55 (mapHM shutV (xs ++ caps) H) := callV_s rfl rfl
theorem cl56 {n : Nat} {caps xs : List AV} {H : Heap} : callV (callN P3 n) (.func 56 caps) xs H = callS P3 n 56 (mapHM shutV (xs ++ caps) H) := callV_s rfl rfl
theorem cl57 {n : Nat} {caps xs : List AV} {H : Heap} : callV (callN P3 n) (.func 57 caps) xs H = callS P3 n 57 (mapHM shutV (xs ++ caps) H) := callV_s rfl rfl
theorem cl58 {n : Nat} {caps xs : List AV} {H : Heap} : callV (callN P3 n) (.func 58 caps) xs H = callS P3 n 58 (mapHM shutV (xs ++ caps) H) := callV_s rfl rfl
set_option linter.defProp false in
def CL := (And.intro (And.intro (And.intro (And.intro (And.intro @cl3 (And.intro @cl4 @cl5)) (And.intro (And.intro @cl6 @cl7) (And.intro @cl8 @cl9))) (And.intro (And.intro @cl10 (And.intro @cl11 @cl12)) (And.intro (And.intro @cl13 @cl14) (And.intro @cl15 @cl16)))) (And.intro (And.intro (And.intro @cl17 (And.intro @cl18 @cl19)) (And.intro (And.intro @cl20 @cl21) (And.intro @cl22 @cl23))) (And.intro (And.intro @cl24 (And.intro @cl25 @cl26)) (And.intro (And.intro @cl27 @cl28) (And.intro @cl29 @cl30))))) (And.intro (And.intro (And.intro (And.intro @cl31 (And.intro @cl32 @cl33)) (And.intro (And.intro @cl34 @cl35) (And.intro @cl36 @cl37))) (And.intro (And.intro @cl38 (And.intro @cl39 @cl40)) (And.intro (And.intro @cl41 @cl42) (And.intro @cl43 @cl44)))) (And.intro (And.intro (And.intro @cl45 (And.intro @cl46 @cl47)) (And.intro (And.intro @cl48 @cl49) (And.intro @cl50 @cl51))) (And.intro (And.intro @cl52 (And.intro @cl53 @cl54)) (And.intro (And.intro @cl55 @cl56) (And.intro @cl57 @cl58))))))

/-- a number brought to 0 .. n - 1, as the program does it -/
def within (a n : Int) : Int := if a.tmod n < 0 then IntKind.i64.wrap (a.tmod n + n) else a.tmod n

theorem run18 (a b : Int) (hb : b ≠ 0) : Ret P3 18 [.int .i64 a, .int .i64 b] (.int .i64 (within a b)) := by
  refine Ret.of rfl (code18 _ _) rfl rfl (fun H => by simp -implicitDefEqProofs only [↓v_lenS, SB, POp.val, AOp.val, WOp.val, Lite.bin, intBin, strBin, eqv, eqMany, eq1, AV.asBool, AV.asInt, AV.asNat, AV.asPtr, AV.asStr, resVals, ResV.val, oneOr, wants, skipped, fillAt, putAt, capOf, optNat, bnd, Nat.reduceBEq, reduceIte, Nat.reduceAdd, Nat.reduceLeDiff, Nat.reduceEqDiff, Nat.reduceSub, Nat.reduceMul, Nat.reduceDiv, SOper.again, same, sameBlk, sameCap, Nat.reduceBneDiff, s_draw2, s_pair, k_pair, asunder, SOper.into, Bool.not_false, Bool.not_true]) (Ev.of fun n H => ?_)
  unfold within
  by_cases h : a.tmod b < 0
  all_goals simp -implicitDefEqProofs only [c18, ↓v_lenS, SB, POp.val, AOp.val, WOp.val, Lite.bin, intBin, strBin, eqv, eqMany, eq1, AV.asBool, AV.asInt, AV.asNat, AV.asPtr, AV.asStr, resVals, ResV.val, oneOr, wants, skipped, fillAt, putAt, capOf, optNat, bnd, Nat.reduceBEq, reduceIte, Nat.reduceAdd, Nat.reduceLeDiff, Nat.reduceEqDiff, Nat.reduceSub, Nat.reduceMul, Nat.reduceDiv, SOper.again, same, sameBlk, sameCap, Nat.reduceBneDiff, s_draw2, s_pair, k_pair, asunder, SOper.into, Bool.not_false, Bool.not_true, if_neg, if_pos, hb, h, Ends, gives_ret]
  all_goals exact ⟨_, rfl⟩

theorem run45 (a b : Int) (hb : b ≠ 0) : Ret P3 45 [.int .i64 a, .int .i64 b] (.int .i64 (within a b)) := by
  refine Ret.of rfl (code45 _ _) rfl rfl (fun H => by simp -implicitDefEqProofs only [↓v_lenS, SB, POp.val, AOp.val, WOp.val, Lite.bin, intBin, strBin, eqv, eqMany, eq1, AV.asBool, AV.asInt, AV.asNat, AV.asPtr, AV.asStr, resVals, ResV.val, oneOr, wants, skipped, fillAt, putAt, capOf, optNat, bnd, Nat.reduceBEq, reduceIte, Nat.reduceAdd, Nat.reduceLeDiff, Nat.reduceEqDiff, Nat.reduceSub, Nat.reduceMul, Nat.reduceDiv, SOper.again, same, sameBlk, sameCap, Nat.reduceBneDiff, s_draw2, s_pair, k_pair, asunder, SOper.into, Bool.not_false, Bool.not_true]) (Ev.of fun n H => ?_)
  unfold within
  by_cases h : a.tmod b < 0
  all_goals simp -implicitDefEqProofs only [c45, ↓v_lenS, SB, POp.val, AOp.val, WOp.val, Lite.bin, intBin, strBin, eqv, eqMany, eq1, AV.asBool, AV.asInt, AV.asNat, AV.asPtr, AV.asStr, resVals, ResV.val, oneOr, wants, skipped, fillAt, putAt, capOf, optNat, bnd, Nat.reduceBEq, reduceIte, Nat.reduceAdd, Nat.reduceLeDiff, Nat.reduceEqDiff, Nat.reduceSub, Nat.reduceMul, Nat.reduceDiv, SOper.again, same, sameBlk, sameCap, Nat.reduceBneDiff, s_draw2, s_pair, k_pair, asunder, SOper.into, Bool.not_false, Bool.not_true, if_neg, if_pos, hb, h, Ends, gives_ret]
  all_goals exact ⟨_, rfl⟩

/-! ### Sizes -/

mutual
/-- how many -/
def X.size : X → Nat
  | .mk _ _ _ l => 1 + X.sizes l
def X.sizes : List X → Nat
  | [] => 0
  | d :: ds => d.size + X.sizes ds
end

theorem X.sizes_append (a b : List X) : X.sizes (a ++ b) = X.sizes a + X.sizes b := by
  induction a with
  | nil => simp [X.sizes]
  | cons e l ih => simp only [List.cons_append, X.sizes, ih]; omega

theorem X.sizes_take {l : List X} {i : Nat} {d : X} (h : l[i]? = some d) : X.sizes (l.take (i + 1)) = X.sizes (l.take i) + d.size := by
  rw [List.take_add_one, h, Option.toList_some, X.sizes_append]
  simp [X.sizes]

theorem X.sizes_take_le (l : List X) (i : Nat) : X.sizes (l.take i) ≤ X.sizes l := by
  conv => rhs; rw [← List.take_append_drop i l, X.sizes_append]
  omega

theorem X.size_mem {l : List X} {d : X} (hd : d ∈ l) : d.size ≤ X.sizes l := by
  obtain ⟨i, hi, rfl⟩ := List.getElem_of_mem hd
  have h1 := X.sizes_take (List.getElem?_eq_getElem hi)
  have h2 := X.sizes_take_le l (i + 1)
  omega

theorem X.len_le_sizes (l : List X) : l.length ≤ X.sizes l := by
  induction l with
  | nil => simp
  | cons e l ih => cases e; simp only [X.sizes, X.size, List.length_cons]; omega

theorem size23 : ∀ x : X, x.size ≤ 1099511627776 → Ret P3 23 [x.v] (.int .i64 x.size) := X.indA fun k t ns l ih hsz => by
  rw [X.size] at hsz ⊢
  have hl := X.len_le_sizes l
  refine Ret.of rfl (code23 _ _) rfl rfl (fun H => by simp -implicitDefEqProofs only [mapHM_nil, mapHM_cons, X.shut, Option.bind_some, Option.map_some]) ?_
  refine ((Ev.all l fun d hd => ih d hd (by have := X.size_mem hd; omega)).and (Ev.ge (l.length + 1))).mono fun n hn H => ?_
  obtain ⟨ihn, hge⟩ := hn
  simp -implicitDefEqProofs only [c23, X.v_mk, ↓v_lenS, SB, POp.val, AOp.val, WOp.val, Lite.bin, intBin, strBin, eqv, eqMany, eq1, AV.asBool, AV.asInt, AV.asNat, AV.asPtr, AV.asStr, resVals, ResV.val, oneOr, wants, skipped, fillAt, putAt, capOf, optNat, bnd, Nat.reduceBEq, reduceIte, Nat.reduceAdd, Nat.reduceLeDiff, Nat.reduceEqDiff, Nat.reduceSub, Nat.reduceMul, Nat.reduceDiv, SOper.again, same, sameBlk, sameCap, Nat.reduceBneDiff, s_draw2, s_pair, k_pair, asunder, SOper.into, Bool.not_false, Bool.not_true, fl_vStrs, fl_vXs, len_vXs]
  refine loop_rounds l.length (fun i fr H => H.t.get 0 = some (.row [.int .i64 k, .str t, vStrs ns, vXs l] 0 false (some 28)) ∧ fr 1 = .ptr (.new 0) 0 ∧ fr 4 = .int .i64 i ∧ fr 3 = .int .i64 (1 + X.sizes (l.take i) : Nat) ∧ 0 < H.n) ?_ ?_ n 0 _ _ (by omega) (by omega) ?_
  · rintro i fr H K' hi ⟨hg, h1, h4, h3, hn⟩ hKe hKr hK
    obtain ⟨d, hd⟩ : ∃ d, l[i]? = some d := ⟨l[i], List.getElem?_eq_getElem hi⟩
    have e1 := ihn d (List.mem_of_getElem? hd)
    have hlt : (i : Int) < (l.length : Int) := by omega
    have hw := wrap_succ hi (by omega)
    have hs := X.sizes_take hd
    have hw2 : IntKind.i64.wrap (((1 + X.sizes (l.take i) : Nat) : Int) + (d.size : Int)) = ((1 + X.sizes (l.take (i + 1)) : Nat) : Int) := by
      have := X.sizes_take_le l (i + 1)
      rw [wrap_nat (by omega)]
      congr 1; omega
    obtain ⟨kd, td, md, ld⟩ := d
    rw [X.v_mk] at e1
    simp -implicitDefEqProofs only [c23_l0, ↓v_lenS, SB, POp.val, AOp.val, WOp.val, Lite.bin, intBin, strBin, eqv, eqMany, eq1, AV.asBool, AV.asInt, AV.asNat, AV.asPtr, AV.asStr, resVals, ResV.val, oneOr, wants, skipped, fillAt, putAt, capOf, optNat, bnd, Nat.reduceBEq, reduceIte, Nat.reduceAdd, Nat.reduceLeDiff, Nat.reduceEqDiff, Nat.reduceSub, Nat.reduceMul, Nat.reduceDiv, SOper.again, same, sameBlk, sameCap, Nat.reduceBneDiff, s_draw2, s_pair, k_pair, asunder, SOper.into, Bool.not_false, Bool.not_true, hg, h1, h4, h3, hlt, iaddr_vXs hd, XS, CL, e1, hw, hw2]
    refine hK _ _ ?_
    simp -implicitDefEqProofs only [↓v_lenS, SB, POp.val, AOp.val, WOp.val, Lite.bin, intBin, strBin, eqv, eqMany, eq1, AV.asBool, AV.asInt, AV.asNat, AV.asPtr, AV.asStr, resVals, ResV.val, oneOr, wants, skipped, fillAt, putAt, capOf, optNat, bnd, Nat.reduceBEq, reduceIte, Nat.reduceAdd, Nat.reduceLeDiff, Nat.reduceEqDiff, Nat.reduceSub, Nat.reduceMul, Nat.reduceDiv, SOper.again, same, sameBlk, sameCap, Nat.reduceBneDiff, s_draw2, s_pair, k_pair, asunder, SOper.into, Bool.not_false, Bool.not_true, hg, h1]
    exact hn
  · rintro fr H K' ⟨hg, h1, h4, h3, hn⟩ hKe hKr
    simp -implicitDefEqProofs only [c23_l0, ↓v_lenS, SB, POp.val, AOp.val, WOp.val, Lite.bin, intBin, strBin, eqv, eqMany, eq1, AV.asBool, AV.asInt, AV.asNat, AV.asPtr, AV.asStr, resVals, ResV.val, oneOr, wants, skipped, fillAt, putAt, capOf, optNat, bnd, Nat.reduceBEq, reduceIte, Nat.reduceAdd, Nat.reduceLeDiff, Nat.reduceEqDiff, Nat.reduceSub, Nat.reduceMul, Nat.reduceDiv, SOper.again, same, sameBlk, sameCap, Nat.reduceBneDiff, s_draw2, s_pair, k_pair, asunder, SOper.into, Bool.not_false, Bool.not_true, hg, h1, h4, h3, Int.lt_irrefl, hKe, XS, List.take_length, gives_ret]
    exact ⟨_, rfl⟩
  · simp -implicitDefEqProofs only [↓v_lenS, SB, POp.val, AOp.val, WOp.val, Lite.bin, intBin, strBin, eqv, eqMany, eq1, AV.asBool, AV.asInt, AV.asNat, AV.asPtr, AV.asStr, resVals, ResV.val, oneOr, wants, skipped, fillAt, putAt, capOf, optNat, bnd, Nat.reduceBEq, reduceIte, Nat.reduceAdd, Nat.reduceLeDiff, Nat.reduceEqDiff, Nat.reduceSub, Nat.reduceMul, Nat.reduceDiv, SOper.again, same, sameBlk, sameCap, Nat.reduceBneDiff, s_draw2, s_pair, k_pair, asunder, SOper.into, Bool.not_false, Bool.not_true, List.take_zero, X.sizes]
    simp [h_n]

end Go.Lite

/-
  Terms: what is the same; atoms; whether a term Is, by the program and by the document.
-/
namespace Go.Lite
open Go Go.Proofs
set_option maxRecDepth 100000
set_option linter.unusedSimpArgs false
set_option linter.unusedVariables false

/-- of two lists, as long, one by one -/
def zipAll {α β : Type} (p : α → β → Bool) : List α → List β → Bool
  | [], [] => true
  | x :: xs, y :: ys => p x y && zipAll p xs ys
  | _, _ => false

theorem zipAll_iff {α β : Type} {p : α → β → Bool} : ∀ (l : List α) (l' : List β), l.length = l'.length → (zipAll p l l' = true ↔ ∀ (i : Nat) x y, l[i]? = some x → l'[i]? = some y → p x y = true)
  | [], [], _ => by simp [zipAll]
  | [], y :: ys, h => by simp at h
  | x :: xs, [], h => by simp at h
  | x :: xs, y :: ys, h => by
    rw [zipAll, Bool.and_eq_true, zipAll_iff xs ys (by simpa using h)]
    constructor
    · rintro ⟨h1, h2⟩ i a b ha hb
      cases i with
      | zero => simp at ha hb; subst ha; subst hb; exact h1
      | succ i => exact h2 i a b (by simpa using ha) (by simpa using hb)
    · intro h
      exact ⟨h 0 x y rfl rfl, fun i a b ha hb => h (i + 1) a b (by simpa using ha) (by simpa using hb)⟩

theorem zipAll_len {α β : Type} {p : α → β → Bool} : ∀ (l : List α) (l' : List β), l.length ≠ l'.length → zipAll p l l' = false
  | [], [], h => by simp at h
  | [], y :: ys, h => rfl
  | x :: xs, [], h => rfl
  | x :: xs, y :: ys, h => by rw [zipAll, zipAll_len xs ys (by simpa using h), Bool.and_false]

theorem get2 {α β : Type} {l : List α} {l' : List β} {i : Nat} (h : l.length = l'.length) (hi : i < l.length) : ∃ x y, l[i]? = some x ∧ l'[i]? = some y :=
  ⟨l[i], l'[i]'(by omega), List.getElem?_eq_getElem hi, List.getElem?_eq_getElem (by omega)⟩

theorem next_all {α β : Type} {p : α → β → Bool} {l : List α} {l' : List β} {i : Nat} {x : α} {y : β} (h : ∀ j, j < i → ∀ a b, l[j]? = some a → l'[j]? = some b → p a b = true) (hx : l[i]? = some x) (hy : l'[i]? = some y) (hp : p x y = true) :
    ∀ j, j < i + 1 → ∀ a b, l[j]? = some a → l'[j]? = some b → p a b = true := fun j hj a b ha hb => by
  rcases Nat.lt_or_ge j i with h1 | h1
  · exact h j h1 a b ha hb
  · obtain rfl : j = i := by omega
    rw [hx] at ha
    rw [hy] at hb
    simp only [Option.some.injEq] at ha hb
    subst ha; subst hb; exact hp

theorem all_end {α β : Type} {p : α → β → Bool} {l : List α} {l' : List β} (hl : l.length = l'.length) (h : ∀ j, j < l.length → ∀ a b, l[j]? = some a → l'[j]? = some b → p a b = true) : zipAll p l l' = true :=
  (zipAll_iff l l' hl).2 fun i a b ha hb => h i (List.getElem?_eq_some_iff.1 ha).1 a b ha hb

theorem all_not {α β : Type} {p : α → β → Bool} {l : List α} {l' : List β} (hl : l.length = l'.length) {i : Nat} {x : α} {y : β} (hx : l[i]? = some x) (hy : l'[i]? = some y) (hp : p x y = false) : zipAll p l l' = false := by
  cases h : zipAll p l l' with
  | false => rfl
  | true =>
    have := (zipAll_iff l l' hl).1 h i x y hx hy
    rw [hp] at this; cases this

theorem len_bne {a b : Nat} : (((a : Nat) : Int) != ((b : Nat) : Int)) = !(a == b) := by
  by_cases h : a = b
  · subst h; simp
  · have h1 : ((a : Int) == (b : Int)) = false := by simp; omega
    have h2 : (a == b) = false := by simpa using h
    simp only [bne, h1, h2]


theorem texts37 (ns ms : List Str) (hl : ns.length ≤ 4611686018427387904) : Ret P3 37 [vStrs ns, vStrs ms] (.bool (zipAll (· == ·) ns ms)) := by
  refine Ret.of rfl (code37 _ _) rfl rfl (fun H => by simp -implicitDefEqProofs only [↓v_lenS, SB, POp.val, AOp.val, WOp.val, Lite.bin, intBin, strBin, eqv, eqMany, eq1, AV.asBool, AV.asInt, AV.asNat, AV.asPtr, AV.asStr, resVals, ResV.val, oneOr, wants, skipped, fillAt, putAt, capOf, optNat, bnd, Nat.reduceBEq, reduceIte, Nat.reduceAdd, Nat.reduceLeDiff, Nat.reduceEqDiff, Nat.reduceSub, Nat.reduceMul, Nat.reduceDiv, SOper.again, same, sameBlk, sameCap, Nat.reduceBneDiff, s_draw2, s_pair, k_pair, asunder, SOper.into, Bool.not_false, Bool.not_true, XS]) ?_
  refine (Ev.ge (ns.length + 1)).mono fun n hge H => ?_
  have hb := len_bne (a := ns.length) (b := ms.length)
  by_cases hll : ns.length = ms.length
  · have h1 : (ns.length == ms.length) = true := by simpa using hll
    rw [h1] at hb
    simp -implicitDefEqProofs only [c37, ↓v_lenS, SB, POp.val, AOp.val, WOp.val, Lite.bin, intBin, strBin, eqv, eqMany, eq1, AV.asBool, AV.asInt, AV.asNat, AV.asPtr, AV.asStr, resVals, ResV.val, oneOr, wants, skipped, fillAt, putAt, capOf, optNat, bnd, Nat.reduceBEq, reduceIte, Nat.reduceAdd, Nat.reduceLeDiff, Nat.reduceEqDiff, Nat.reduceSub, Nat.reduceMul, Nat.reduceDiv, SOper.again, same, sameBlk, sameCap, Nat.reduceBneDiff, s_draw2, s_pair, k_pair, asunder, SOper.into, Bool.not_false, Bool.not_true, CL, XS, hb]
    refine loop_rounds ns.length (fun i fr H => (∀ j, j < i → ∀ a b, ns[j]? = some a → ms[j]? = some b → (a == b) = true) ∧ fr 0 = vStrs ns ∧ fr 1 = vStrs ms ∧ fr 5 = .int .i64 i) ?_ ?_ n 0 _ _ (by omega) (by omega) ?_
    · rintro i fr H K' hi ⟨hall, h0, h1, h5⟩ hKe hKr hK
      obtain ⟨x, y, hx, hy⟩ := get2 hll hi
      have hlt : (i : Int) < (ns.length : Int) := by omega
      have hw := wrap_succ hi (by omega)
      cases hp : (x == y) with
      | true =>
        have hnext := next_all (p := (· == ·)) hall hx hy hp
        simp -implicitDefEqProofs only [c37_l0, ↓v_lenS, SB, POp.val, AOp.val, WOp.val, Lite.bin, intBin, strBin, eqv, eqMany, eq1, AV.asBool, AV.asInt, AV.asNat, AV.asPtr, AV.asStr, resVals, ResV.val, oneOr, wants, skipped, fillAt, putAt, capOf, optNat, bnd, Nat.reduceBEq, reduceIte, Nat.reduceAdd, Nat.reduceLeDiff, Nat.reduceEqDiff, Nat.reduceSub, Nat.reduceMul, Nat.reduceDiv, SOper.again, same, sameBlk, sameCap, Nat.reduceBneDiff, s_draw2, s_pair, k_pair, asunder, SOper.into, Bool.not_false, Bool.not_true, CL, XS, h0, h1, h5, hlt, iaddr_vStrs hx, iaddr_vStrs hy, hp, hw]
        refine hK _ _ ⟨hnext, ?_⟩
        simp -implicitDefEqProofs only [↓v_lenS, SB, POp.val, AOp.val, WOp.val, Lite.bin, intBin, strBin, eqv, eqMany, eq1, AV.asBool, AV.asInt, AV.asNat, AV.asPtr, AV.asStr, resVals, ResV.val, oneOr, wants, skipped, fillAt, putAt, capOf, optNat, bnd, Nat.reduceBEq, reduceIte, Nat.reduceAdd, Nat.reduceLeDiff, Nat.reduceEqDiff, Nat.reduceSub, Nat.reduceMul, Nat.reduceDiv, SOper.again, same, sameBlk, sameCap, Nat.reduceBneDiff, s_draw2, s_pair, k_pair, asunder, SOper.into, Bool.not_false, Bool.not_true, h0, h1]
      | false =>
        have hno := all_not (p := (· == ·)) hll hx hy hp
        simp -implicitDefEqProofs only [c37_l0, ↓v_lenS, SB, POp.val, AOp.val, WOp.val, Lite.bin, intBin, strBin, eqv, eqMany, eq1, AV.asBool, AV.asInt, AV.asNat, AV.asPtr, AV.asStr, resVals, ResV.val, oneOr, wants, skipped, fillAt, putAt, capOf, optNat, bnd, Nat.reduceBEq, reduceIte, Nat.reduceAdd, Nat.reduceLeDiff, Nat.reduceEqDiff, Nat.reduceSub, Nat.reduceMul, Nat.reduceDiv, SOper.again, same, sameBlk, sameCap, Nat.reduceBneDiff, s_draw2, s_pair, k_pair, asunder, SOper.into, Bool.not_false, Bool.not_true, CL, XS, h0, h1, h5, hlt, iaddr_vStrs hx, iaddr_vStrs hy, hp, hw, hKr, gives_ret, hno]
        exact ⟨_, rfl⟩
    · rintro fr H K' ⟨hall, h0, h1, h5⟩ hKe hKr
      have hyes := all_end (p := (· == ·)) hll hall
      simp -implicitDefEqProofs only [c37_l0, ↓v_lenS, SB, POp.val, AOp.val, WOp.val, Lite.bin, intBin, strBin, eqv, eqMany, eq1, AV.asBool, AV.asInt, AV.asNat, AV.asPtr, AV.asStr, resVals, ResV.val, oneOr, wants, skipped, fillAt, putAt, capOf, optNat, bnd, Nat.reduceBEq, reduceIte, Nat.reduceAdd, Nat.reduceLeDiff, Nat.reduceEqDiff, Nat.reduceSub, Nat.reduceMul, Nat.reduceDiv, SOper.again, same, sameBlk, sameCap, Nat.reduceBneDiff, s_draw2, s_pair, k_pair, asunder, SOper.into, Bool.not_false, Bool.not_true, XS, h0, h1, h5, Int.lt_irrefl, hKe, gives_ret, hyes]
      exact ⟨_, rfl⟩
    · simp -implicitDefEqProofs only [↓v_lenS, SB, POp.val, AOp.val, WOp.val, Lite.bin, intBin, strBin, eqv, eqMany, eq1, AV.asBool, AV.asInt, AV.asNat, AV.asPtr, AV.asStr, resVals, ResV.val, oneOr, wants, skipped, fillAt, putAt, capOf, optNat, bnd, Nat.reduceBEq, reduceIte, Nat.reduceAdd, Nat.reduceLeDiff, Nat.reduceEqDiff, Nat.reduceSub, Nat.reduceMul, Nat.reduceDiv, SOper.again, same, sameBlk, sameCap, Nat.reduceBneDiff, s_draw2, s_pair, k_pair, asunder, SOper.into, Bool.not_false, Bool.not_true]
      exact ⟨fun j hj => by omega, rfl⟩
  · have h1 : (ns.length == ms.length) = false := by simpa using hll
    rw [h1] at hb
    simp -implicitDefEqProofs only [c37, ↓v_lenS, SB, POp.val, AOp.val, WOp.val, Lite.bin, intBin, strBin, eqv, eqMany, eq1, AV.asBool, AV.asInt, AV.asNat, AV.asPtr, AV.asStr, resVals, ResV.val, oneOr, wants, skipped, fillAt, putAt, capOf, optNat, bnd, Nat.reduceBEq, reduceIte, Nat.reduceAdd, Nat.reduceLeDiff, Nat.reduceEqDiff, Nat.reduceSub, Nat.reduceMul, Nat.reduceDiv, SOper.again, same, sameBlk, sameCap, Nat.reduceBneDiff, s_draw2, s_pair, k_pair, asunder, SOper.into, Bool.not_false, Bool.not_true, CL, XS, hb, Ends, gives_ret, zipAll_len ns ms hll]
    exact ⟨_, rfl⟩

mutual
/-- are two terms the same? -/
def X.same : X → X → Bool
  | .mk k t ns l, .mk k' t' ns' l' => k == k' && (t == t' && (zipAll (· == ·) ns ns' && X.sames l l'))
def X.sames : List X → List X → Bool
  | [], [] => true
  | x :: xs, y :: ys => X.same x y && X.sames xs ys
  | _, _ => false
end

theorem X.sames_eq : ∀ l l' : List X, X.sames l l' = zipAll X.same l l'
  | [], [] => by simp [X.sames, zipAll]
  | [], y :: ys => by simp [X.sames, zipAll]
  | x :: xs, [] => by simp [X.sames, zipAll]
  | x :: xs, y :: ys => by rw [X.sames, zipAll, X.sames_eq xs ys]

mutual
/-- no list of names is too long -/
def X.fit : X → Prop
  | .mk _ _ ns l => ns.length ≤ 1048576 ∧ l.length ≤ 60 ∧ X.fits l
def X.fits : List X → Prop
  | [] => True
  | d :: ds => d.fit ∧ X.fits ds
end

theorem X.fits_iff (l : List X) : X.fits l ↔ ∀ d ∈ l, d.fit := by
  induction l with
  | nil => simp [X.fits]
  | cons d l ih => simp [X.fits, ih]

theorem same15 : ∀ x : X, x.fit → ∀ y : X, Ret P3 15 [x.v, y.v] (.bool (x.same y)) := X.indA fun k t ns l ih hf y => by
  obtain ⟨k', t', ns', l'⟩ := y
  obtain ⟨f1, f2, f3⟩ := hf
  have f3 := (X.fits_iff l).1 f3
  have hall : Ev fun n => ∀ x ∈ l, ∀ y ∈ l', ∀ H, callN P3 n 15 [x.v, y.v] H = some (.ret (.bool (x.same y)), H) := Ev.all l fun x hx => Ev.all l' fun y _ => ih x hx (f3 x hx) y
  refine Ret.of rfl (code15 _ _) rfl rfl (fun H => by simp -implicitDefEqProofs only [mapHM_nil, mapHM_cons, X.shut, Option.bind_some, Option.map_some]) ?_
  refine (hall.and ((texts37 ns ns' (by omega)).and (Ev.ge (l.length + 1)))).mono fun n hn H => ?_
  obtain ⟨ihn, ht, hge⟩ := hn
  rw [X.same, X.sames_eq]
  cases hk : (k == k') with
  | false =>
    have hk' : (k != k') = true := by simp [bne, hk]
    simp -implicitDefEqProofs only [c15, ↓v_lenS, SB, POp.val, AOp.val, WOp.val, Lite.bin, intBin, strBin, eqv, eqMany, eq1, AV.asBool, AV.asInt, AV.asNat, AV.asPtr, AV.asStr, resVals, ResV.val, oneOr, wants, skipped, fillAt, putAt, capOf, optNat, bnd, Nat.reduceBEq, reduceIte, Nat.reduceAdd, Nat.reduceLeDiff, Nat.reduceEqDiff, Nat.reduceSub, Nat.reduceMul, Nat.reduceDiv, SOper.again, same, sameBlk, sameCap, Nat.reduceBneDiff, s_draw2, s_pair, k_pair, asunder, SOper.into, Bool.not_false, Bool.not_true, CL, XS, hk', ht, Ends, gives_ret]
    exact ⟨_, rfl⟩
  | true =>
    have hk' : (k != k') = false := by simp [bne, hk]
    cases htt : (t == t') with
    | false =>
      simp -implicitDefEqProofs only [c15, ↓v_lenS, SB, POp.val, AOp.val, WOp.val, Lite.bin, intBin, strBin, eqv, eqMany, eq1, AV.asBool, AV.asInt, AV.asNat, AV.asPtr, AV.asStr, resVals, ResV.val, oneOr, wants, skipped, fillAt, putAt, capOf, optNat, bnd, Nat.reduceBEq, reduceIte, Nat.reduceAdd, Nat.reduceLeDiff, Nat.reduceEqDiff, Nat.reduceSub, Nat.reduceMul, Nat.reduceDiv, SOper.again, same, sameBlk, sameCap, Nat.reduceBneDiff, s_draw2, s_pair, k_pair, asunder, SOper.into, Bool.not_false, Bool.not_true, CL, XS, hk', htt, ht, Ends, gives_ret]
      exact ⟨_, rfl⟩
    | true =>
      cases hz : zipAll (· == ·) ns ns' with
      | false =>
        rw [hz] at ht
        simp -implicitDefEqProofs only [c15, ↓v_lenS, SB, POp.val, AOp.val, WOp.val, Lite.bin, intBin, strBin, eqv, eqMany, eq1, AV.asBool, AV.asInt, AV.asNat, AV.asPtr, AV.asStr, resVals, ResV.val, oneOr, wants, skipped, fillAt, putAt, capOf, optNat, bnd, Nat.reduceBEq, reduceIte, Nat.reduceAdd, Nat.reduceLeDiff, Nat.reduceEqDiff, Nat.reduceSub, Nat.reduceMul, Nat.reduceDiv, SOper.again, same, sameBlk, sameCap, Nat.reduceBneDiff, s_draw2, s_pair, k_pair, asunder, SOper.into, Bool.not_false, Bool.not_true, CL, XS, hk', htt, ht, Ends, gives_ret]
        exact ⟨_, rfl⟩
      | true =>
        rw [hz] at ht
        have hb := len_bne (a := l.length) (b := l'.length)
        by_cases hll : l.length = l'.length
        · have h1 : (l.length == l'.length) = true := by simpa using hll
          rw [h1] at hb
          simp -implicitDefEqProofs only [c15, ↓v_lenS, SB, POp.val, AOp.val, WOp.val, Lite.bin, intBin, strBin, eqv, eqMany, eq1, AV.asBool, AV.asInt, AV.asNat, AV.asPtr, AV.asStr, resVals, ResV.val, oneOr, wants, skipped, fillAt, putAt, capOf, optNat, bnd, Nat.reduceBEq, reduceIte, Nat.reduceAdd, Nat.reduceLeDiff, Nat.reduceEqDiff, Nat.reduceSub, Nat.reduceMul, Nat.reduceDiv, SOper.again, same, sameBlk, sameCap, Nat.reduceBneDiff, s_draw2, s_pair, k_pair, asunder, SOper.into, Bool.not_false, Bool.not_true, CL, XS, hk', htt, ht, hb]
          refine loop_rounds l.length (fun i fr H => (∀ j, j < i → ∀ a b, l[j]? = some a → l'[j]? = some b → a.same b = true) ∧ fr 2 = .ptr (.new 0) 0 ∧ fr 3 = .ptr (.new 1) 0 ∧ fr 5 = .int .i64 i ∧
            H.t.get 0 = some (.row [.int .i64 k, .str t, vStrs ns, vXs l] 0 false (some 28)) ∧ H.t.get 1 = some (.row [.int .i64 k', .str t', vStrs ns', vXs l'] 0 false (some 28))) ?_ ?_ n 0 _ _ (by omega) (by omega) ?_
          · rintro i fr H K' hi ⟨hall, h2, h3, h5, g0, g1⟩ hKe hKr hK
            obtain ⟨x, y, hx, hy⟩ := get2 hll hi
            have e1 := ihn x (List.mem_of_getElem? hx) y (List.mem_of_getElem? hy)
            have hlt : (i : Int) < (l.length : Int) := by omega
            have hw := wrap_succ hi (by omega)
            cases hp : x.same y with
            | true =>
              have hnext := next_all (p := X.same) hall hx hy hp
              rw [hp] at e1
              obtain ⟨kx, tx, nx, lx⟩ := x
              obtain ⟨ky, ty, ny, ly⟩ := y
              rw [X.v_mk, X.v_mk] at e1
              simp -implicitDefEqProofs only [c15_l0, ↓v_lenS, SB, POp.val, AOp.val, WOp.val, Lite.bin, intBin, strBin, eqv, eqMany, eq1, AV.asBool, AV.asInt, AV.asNat, AV.asPtr, AV.asStr, resVals, ResV.val, oneOr, wants, skipped, fillAt, putAt, capOf, optNat, bnd, Nat.reduceBEq, reduceIte, Nat.reduceAdd, Nat.reduceLeDiff, Nat.reduceEqDiff, Nat.reduceSub, Nat.reduceMul, Nat.reduceDiv, SOper.again, same, sameBlk, sameCap, Nat.reduceBneDiff, s_draw2, s_pair, k_pair, asunder, SOper.into, Bool.not_false, Bool.not_true, CL, XS, h2, h3, h5, g0, g1, hlt, iaddr_vXs hx, iaddr_vXs hy, e1, hw]
              refine hK _ _ ⟨hnext, ?_⟩
              simp -implicitDefEqProofs only [↓v_lenS, SB, POp.val, AOp.val, WOp.val, Lite.bin, intBin, strBin, eqv, eqMany, eq1, AV.asBool, AV.asInt, AV.asNat, AV.asPtr, AV.asStr, resVals, ResV.val, oneOr, wants, skipped, fillAt, putAt, capOf, optNat, bnd, Nat.reduceBEq, reduceIte, Nat.reduceAdd, Nat.reduceLeDiff, Nat.reduceEqDiff, Nat.reduceSub, Nat.reduceMul, Nat.reduceDiv, SOper.again, same, sameBlk, sameCap, Nat.reduceBneDiff, s_draw2, s_pair, k_pair, asunder, SOper.into, Bool.not_false, Bool.not_true, h2, h3, g0, g1]
            | false =>
              have hno := all_not (p := X.same) hll hx hy hp
              rw [hp] at e1
              obtain ⟨kx, tx, nx, lx⟩ := x
              obtain ⟨ky, ty, ny, ly⟩ := y
              rw [X.v_mk, X.v_mk] at e1
              simp -implicitDefEqProofs only [c15_l0, ↓v_lenS, SB, POp.val, AOp.val, WOp.val, Lite.bin, intBin, strBin, eqv, eqMany, eq1, AV.asBool, AV.asInt, AV.asNat, AV.asPtr, AV.asStr, resVals, ResV.val, oneOr, wants, skipped, fillAt, putAt, capOf, optNat, bnd, Nat.reduceBEq, reduceIte, Nat.reduceAdd, Nat.reduceLeDiff, Nat.reduceEqDiff, Nat.reduceSub, Nat.reduceMul, Nat.reduceDiv, SOper.again, same, sameBlk, sameCap, Nat.reduceBneDiff, s_draw2, s_pair, k_pair, asunder, SOper.into, Bool.not_false, Bool.not_true, CL, XS, h2, h3, h5, g0, g1, hlt, iaddr_vXs hx, iaddr_vXs hy, e1, hw, hKr, gives_ret, hno]
              exact ⟨_, rfl⟩
          · rintro fr H K' ⟨hall, h2, h3, h5, g0, g1⟩ hKe hKr
            have hyes := all_end (p := X.same) hll hall
            simp -implicitDefEqProofs only [c15_l0, ↓v_lenS, SB, POp.val, AOp.val, WOp.val, Lite.bin, intBin, strBin, eqv, eqMany, eq1, AV.asBool, AV.asInt, AV.asNat, AV.asPtr, AV.asStr, resVals, ResV.val, oneOr, wants, skipped, fillAt, putAt, capOf, optNat, bnd, Nat.reduceBEq, reduceIte, Nat.reduceAdd, Nat.reduceLeDiff, Nat.reduceEqDiff, Nat.reduceSub, Nat.reduceMul, Nat.reduceDiv, SOper.again, same, sameBlk, sameCap, Nat.reduceBneDiff, s_draw2, s_pair, k_pair, asunder, SOper.into, Bool.not_false, Bool.not_true, XS, h2, h3, h5, g0, g1, Int.lt_irrefl, hKe, gives_ret, hyes]
            exact ⟨_, rfl⟩
          · simp -implicitDefEqProofs only [↓v_lenS, SB, POp.val, AOp.val, WOp.val, Lite.bin, intBin, strBin, eqv, eqMany, eq1, AV.asBool, AV.asInt, AV.asNat, AV.asPtr, AV.asStr, resVals, ResV.val, oneOr, wants, skipped, fillAt, putAt, capOf, optNat, bnd, Nat.reduceBEq, reduceIte, Nat.reduceAdd, Nat.reduceLeDiff, Nat.reduceEqDiff, Nat.reduceSub, Nat.reduceMul, Nat.reduceDiv, SOper.again, same, sameBlk, sameCap, Nat.reduceBneDiff, s_draw2, s_pair, k_pair, asunder, SOper.into, Bool.not_false, Bool.not_true]
            exact ⟨fun j hj => by omega, rfl⟩
        · have h1 : (l.length == l'.length) = false := by simpa using hll
          rw [h1] at hb
          simp -implicitDefEqProofs only [c15, ↓v_lenS, SB, POp.val, AOp.val, WOp.val, Lite.bin, intBin, strBin, eqv, eqMany, eq1, AV.asBool, AV.asInt, AV.asNat, AV.asPtr, AV.asStr, resVals, ResV.val, oneOr, wants, skipped, fillAt, putAt, capOf, optNat, bnd, Nat.reduceBEq, reduceIte, Nat.reduceAdd, Nat.reduceLeDiff, Nat.reduceEqDiff, Nat.reduceSub, Nat.reduceMul, Nat.reduceDiv, SOper.again, same, sameBlk, sameCap, Nat.reduceBneDiff, s_draw2, s_pair, k_pair, asunder, SOper.into, Bool.not_false, Bool.not_true, CL, XS, hk', htt, ht, hb, Ends, gives_ret, zipAll_len l l' hll]
          exact ⟨_, rfl⟩

end Go.Lite

/-
  Atoms; whether all arguments are atoms: the program's Is, the document's.
-/
namespace Go.Lite
open Go Go.Proofs
set_option maxRecDepth 100000
set_option linter.unusedSimpArgs false
set_option linter.unusedVariables false

def atomK (k : Int) : Bool := decide (1 ≤ k) && decide (k ≤ 5)
def X.atom : X → Bool | .mk k _ _ _ => atomK k
def X.kind : X → Int | .mk k _ _ _ => k
def consT : Str := [99, 111, 110, 115]
/-- from which part on atoms must stand -/
def must (k : Int) (t : Str) : Option Nat := if k = 7 then some 1 else if k = 10 ∧ t = consT then some 0 else none

theorem atomK_cases (k : Int) : (atomK k = true ∧ (k = 1 ∨ k = 2 ∨ k = 3 ∨ k = 4 ∨ k = 5)) ∨ (atomK k = false ∧ k ≠ 1 ∧ k ≠ 2 ∧ k ≠ 3 ∧ k ≠ 4 ∧ k ≠ 5) := by
  unfold atomK
  by_cases h1 : 1 ≤ k <;> by_cases h2 : k ≤ 5 <;> simp [h1, h2] <;> omega

theorem atom33 (x : X) : Ret P3 33 [x.v] (.bool x.atom) := by
  obtain ⟨k, t, ns, l⟩ := x
  refine Ret.of rfl (code33 _ _) rfl rfl (fun H => by simp -implicitDefEqProofs only [mapHM_nil, mapHM_cons, X.shut, Option.bind_some, Option.map_some]) (Ev.of fun n H => ?_)
  rw [X.atom]
  rcases atomK_cases k with ⟨h, rfl | rfl | rfl | rfl | rfl⟩ | ⟨h, h1, h2, h3, h4, h5⟩
  · rw [h]; simp -implicitDefEqProofs only [c33, ↓v_lenS, SB, POp.val, AOp.val, WOp.val, Lite.bin, intBin, strBin, eqv, eqMany, eq1, AV.asBool, AV.asInt, AV.asNat, AV.asPtr, AV.asStr, resVals, ResV.val, oneOr, wants, skipped, fillAt, putAt, capOf, optNat, bnd, Nat.reduceBEq, reduceIte, Nat.reduceAdd, Nat.reduceLeDiff, Nat.reduceEqDiff, Nat.reduceSub, Nat.reduceMul, Nat.reduceDiv, SOper.again, same, sameBlk, sameCap, Nat.reduceBneDiff, s_draw2, s_pair, k_pair, asunder, SOper.into, Bool.not_false, Bool.not_true, CL, XS, Ends, gives_ret, Int.reduceBEq]; exact ⟨_, rfl⟩
  · rw [h]; simp -implicitDefEqProofs only [c33, ↓v_lenS, SB, POp.val, AOp.val, WOp.val, Lite.bin, intBin, strBin, eqv, eqMany, eq1, AV.asBool, AV.asInt, AV.asNat, AV.asPtr, AV.asStr, resVals, ResV.val, oneOr, wants, skipped, fillAt, putAt, capOf, optNat, bnd, Nat.reduceBEq, reduceIte, Nat.reduceAdd, Nat.reduceLeDiff, Nat.reduceEqDiff, Nat.reduceSub, Nat.reduceMul, Nat.reduceDiv, SOper.again, same, sameBlk, sameCap, Nat.reduceBneDiff, s_draw2, s_pair, k_pair, asunder, SOper.into, Bool.not_false, Bool.not_true, CL, XS, Ends, gives_ret, Int.reduceBEq]; exact ⟨_, rfl⟩
  · rw [h]; simp -implicitDefEqProofs only [c33, ↓v_lenS, SB, POp.val, AOp.val, WOp.val, Lite.bin, intBin, strBin, eqv, eqMany, eq1, AV.asBool, AV.asInt, AV.asNat, AV.asPtr, AV.asStr, resVals, ResV.val, oneOr, wants, skipped, fillAt, putAt, capOf, optNat, bnd, Nat.reduceBEq, reduceIte, Nat.reduceAdd, Nat.reduceLeDiff, Nat.reduceEqDiff, Nat.reduceSub, Nat.reduceMul, Nat.reduceDiv, SOper.again, same, sameBlk, sameCap, Nat.reduceBneDiff, s_draw2, s_pair, k_pair, asunder, SOper.into, Bool.not_false, Bool.not_true, CL, XS, Ends, gives_ret, Int.reduceBEq]; exact ⟨_, rfl⟩
  · rw [h]; simp -implicitDefEqProofs only [c33, ↓v_lenS, SB, POp.val, AOp.val, WOp.val, Lite.bin, intBin, strBin, eqv, eqMany, eq1, AV.asBool, AV.asInt, AV.asNat, AV.asPtr, AV.asStr, resVals, ResV.val, oneOr, wants, skipped, fillAt, putAt, capOf, optNat, bnd, Nat.reduceBEq, reduceIte, Nat.reduceAdd, Nat.reduceLeDiff, Nat.reduceEqDiff, Nat.reduceSub, Nat.reduceMul, Nat.reduceDiv, SOper.again, same, sameBlk, sameCap, Nat.reduceBneDiff, s_draw2, s_pair, k_pair, asunder, SOper.into, Bool.not_false, Bool.not_true, CL, XS, Ends, gives_ret, Int.reduceBEq]; exact ⟨_, rfl⟩
  · rw [h]; simp -implicitDefEqProofs only [c33, ↓v_lenS, SB, POp.val, AOp.val, WOp.val, Lite.bin, intBin, strBin, eqv, eqMany, eq1, AV.asBool, AV.asInt, AV.asNat, AV.asPtr, AV.asStr, resVals, ResV.val, oneOr, wants, skipped, fillAt, putAt, capOf, optNat, bnd, Nat.reduceBEq, reduceIte, Nat.reduceAdd, Nat.reduceLeDiff, Nat.reduceEqDiff, Nat.reduceSub, Nat.reduceMul, Nat.reduceDiv, SOper.again, same, sameBlk, sameCap, Nat.reduceBneDiff, s_draw2, s_pair, k_pair, asunder, SOper.into, Bool.not_false, Bool.not_true, CL, XS, Ends, gives_ret, Int.reduceBEq]; exact ⟨_, rfl⟩
  · rw [h]
    have h1 : (k == 1) = false := by simpa using h1
    have h2 : (k == 2) = false := by simpa using h2
    have h3 : (k == 3) = false := by simpa using h3
    have h4 : (k == 4) = false := by simpa using h4
    have h5 : (k == 5) = false := by simpa using h5
    simp -implicitDefEqProofs only [c33, ↓v_lenS, SB, POp.val, AOp.val, WOp.val, Lite.bin, intBin, strBin, eqv, eqMany, eq1, AV.asBool, AV.asInt, AV.asNat, AV.asPtr, AV.asStr, resVals, ResV.val, oneOr, wants, skipped, fillAt, putAt, capOf, optNat, bnd, Nat.reduceBEq, reduceIte, Nat.reduceAdd, Nat.reduceLeDiff, Nat.reduceEqDiff, Nat.reduceSub, Nat.reduceMul, Nat.reduceDiv, SOper.again, same, sameBlk, sameCap, Nat.reduceBneDiff, s_draw2, s_pair, k_pair, asunder, SOper.into, Bool.not_false, Bool.not_true, CL, XS, Ends, gives_ret, h1, h2, h3, h4, h5]
    exact ⟨_, rfl⟩

theorem atom36 (x : X) : Ret P3 36 [x.v] (.bool x.atom) := by
  obtain ⟨k, t, ns, l⟩ := x
  refine Ret.of rfl (code36 _ _) rfl rfl (fun H => by simp -implicitDefEqProofs only [mapHM_nil, mapHM_cons, X.shut, Option.bind_some, Option.map_some]) (Ev.of fun n H => ?_)
  rw [X.atom, atomK]
  by_cases h1 : 1 ≤ k <;> by_cases h2 : k ≤ 5
  all_goals simp -implicitDefEqProofs only [c36, ↓v_lenS, SB, POp.val, AOp.val, WOp.val, Lite.bin, intBin, strBin, eqv, eqMany, eq1, AV.asBool, AV.asInt, AV.asNat, AV.asPtr, AV.asStr, resVals, ResV.val, oneOr, wants, skipped, fillAt, putAt, capOf, optNat, bnd, Nat.reduceBEq, reduceIte, Nat.reduceAdd, Nat.reduceLeDiff, Nat.reduceEqDiff, Nat.reduceSub, Nat.reduceMul, Nat.reduceDiv, SOper.again, same, sameBlk, sameCap, Nat.reduceBneDiff, s_draw2, s_pair, k_pair, asunder, SOper.into, Bool.not_false, Bool.not_true, CL, XS, Ends, gives_ret, h1, h2, ge_iff_le]
  all_goals exact ⟨_, rfl⟩

theorem must_cases (k : Int) (t : Str) : ((k == 7) = true ∧ must k t = some 1) ∨ ((k == 7) = false ∧ (k == 10) = true ∧ (t == consT) = true ∧ must k t = some 0) ∨ ((k == 7) = false ∧ ((k == 10) = false ∨ ((k == 10) = true ∧ (t == consT) = false)) ∧ must k t = none) := by
  unfold must
  by_cases h1 : k = 7
  · exact .inl ⟨by simpa using h1, by rw [if_pos h1]⟩
  · by_cases h2 : k = 10
    · by_cases h3 : t = consT
      · exact .inr (.inl ⟨by simpa using h1, by simpa using h2, by simpa using h3, by rw [if_neg h1, if_pos ⟨h2, h3⟩]⟩)
      · exact .inr (.inr ⟨by simpa using h1, .inr ⟨by simpa using h2, by simpa using h3⟩, by rw [if_neg h1, if_neg (fun e => h3 e.2)]⟩)
    · exact .inr (.inr ⟨by simpa using h1, .inl (by simpa using h2), by rw [if_neg h1, if_neg (fun e => h2 e.1)]⟩)

theorem first34 (k : Int) (t : Str) (ns : List Str) (l : List X) : Ret P3 34 [(X.mk k t ns l).v] (.int .i64 ((must k t).getD l.length)) := by
  refine Ret.of rfl (code34 _ _) rfl rfl (fun H => by simp -implicitDefEqProofs only [mapHM_nil, mapHM_cons, X.shut, Option.bind_some, Option.map_some]) (Ev.of fun n H => ?_)
  rcases must_cases k t with ⟨h1, hm⟩ | ⟨h1, h2, h3, hm⟩ | ⟨h1, h2 | ⟨h2, h3⟩, hm⟩
  · rw [hm]; simp -implicitDefEqProofs only [c34, ↓v_lenS, SB, POp.val, AOp.val, WOp.val, Lite.bin, intBin, strBin, eqv, eqMany, eq1, AV.asBool, AV.asInt, AV.asNat, AV.asPtr, AV.asStr, resVals, ResV.val, oneOr, wants, skipped, fillAt, putAt, capOf, optNat, bnd, Nat.reduceBEq, reduceIte, Nat.reduceAdd, Nat.reduceLeDiff, Nat.reduceEqDiff, Nat.reduceSub, Nat.reduceMul, Nat.reduceDiv, SOper.again, same, sameBlk, sameCap, Nat.reduceBneDiff, s_draw2, s_pair, k_pair, asunder, SOper.into, Bool.not_false, Bool.not_true, CL, XS, Ends, gives_ret, h1]; exact ⟨_, rfl⟩
  · unfold consT at h3
    rw [hm]; simp -implicitDefEqProofs only [c34, ↓v_lenS, SB, POp.val, AOp.val, WOp.val, Lite.bin, intBin, strBin, eqv, eqMany, eq1, AV.asBool, AV.asInt, AV.asNat, AV.asPtr, AV.asStr, resVals, ResV.val, oneOr, wants, skipped, fillAt, putAt, capOf, optNat, bnd, Nat.reduceBEq, reduceIte, Nat.reduceAdd, Nat.reduceLeDiff, Nat.reduceEqDiff, Nat.reduceSub, Nat.reduceMul, Nat.reduceDiv, SOper.again, same, sameBlk, sameCap, Nat.reduceBneDiff, s_draw2, s_pair, k_pair, asunder, SOper.into, Bool.not_false, Bool.not_true, CL, XS, Ends, gives_ret, h1, h2, h3]; exact ⟨_, rfl⟩
  · rw [hm]; simp -implicitDefEqProofs only [c34, ↓v_lenS, SB, POp.val, AOp.val, WOp.val, Lite.bin, intBin, strBin, eqv, eqMany, eq1, AV.asBool, AV.asInt, AV.asNat, AV.asPtr, AV.asStr, resVals, ResV.val, oneOr, wants, skipped, fillAt, putAt, capOf, optNat, bnd, Nat.reduceBEq, reduceIte, Nat.reduceAdd, Nat.reduceLeDiff, Nat.reduceEqDiff, Nat.reduceSub, Nat.reduceMul, Nat.reduceDiv, SOper.again, same, sameBlk, sameCap, Nat.reduceBneDiff, s_draw2, s_pair, k_pair, asunder, SOper.into, Bool.not_false, Bool.not_true, CL, XS, Ends, gives_ret, h1, h2]; exact ⟨_, rfl⟩
  · unfold consT at h3
    rw [hm]; simp -implicitDefEqProofs only [c34, ↓v_lenS, SB, POp.val, AOp.val, WOp.val, Lite.bin, intBin, strBin, eqv, eqMany, eq1, AV.asBool, AV.asInt, AV.asNat, AV.asPtr, AV.asStr, resVals, ResV.val, oneOr, wants, skipped, fillAt, putAt, capOf, optNat, bnd, Nat.reduceBEq, reduceIte, Nat.reduceAdd, Nat.reduceLeDiff, Nat.reduceEqDiff, Nat.reduceSub, Nat.reduceMul, Nat.reduceDiv, SOper.again, same, sameBlk, sameCap, Nat.reduceBneDiff, s_draw2, s_pair, k_pair, asunder, SOper.into, Bool.not_false, Bool.not_true, CL, XS, Ends, gives_ret, h1, h2, h3]; exact ⟨_, rfl⟩

/-- the document's word for it -/
def lazyZ (k : Int) (t : Str) : Int := match must k t with | some n => n | none => -1

theorem lazy35 (k : Int) (t : Str) (ns : List Str) (l : List X) : Ret P3 35 [(X.mk k t ns l).v] (.int .i64 (lazyZ k t)) := by
  refine Ret.of rfl (code35 _ _) rfl rfl (fun H => by simp -implicitDefEqProofs only [mapHM_nil, mapHM_cons, X.shut, Option.bind_some, Option.map_some]) (Ev.of fun n H => ?_)
  unfold lazyZ
  rcases must_cases k t with ⟨h1, hm⟩ | ⟨h1, h2, h3, hm⟩ | ⟨h1, h2 | ⟨h2, h3⟩, hm⟩
  · rw [hm]; simp -implicitDefEqProofs only [c35, ↓v_lenS, SB, POp.val, AOp.val, WOp.val, Lite.bin, intBin, strBin, eqv, eqMany, eq1, AV.asBool, AV.asInt, AV.asNat, AV.asPtr, AV.asStr, resVals, ResV.val, oneOr, wants, skipped, fillAt, putAt, capOf, optNat, bnd, Nat.reduceBEq, reduceIte, Nat.reduceAdd, Nat.reduceLeDiff, Nat.reduceEqDiff, Nat.reduceSub, Nat.reduceMul, Nat.reduceDiv, SOper.again, same, sameBlk, sameCap, Nat.reduceBneDiff, s_draw2, s_pair, k_pair, asunder, SOper.into, Bool.not_false, Bool.not_true, CL, XS, Ends, gives_ret, h1]; exact ⟨_, rfl⟩
  · unfold consT at h3
    rw [hm]; simp -implicitDefEqProofs only [c35, ↓v_lenS, SB, POp.val, AOp.val, WOp.val, Lite.bin, intBin, strBin, eqv, eqMany, eq1, AV.asBool, AV.asInt, AV.asNat, AV.asPtr, AV.asStr, resVals, ResV.val, oneOr, wants, skipped, fillAt, putAt, capOf, optNat, bnd, Nat.reduceBEq, reduceIte, Nat.reduceAdd, Nat.reduceLeDiff, Nat.reduceEqDiff, Nat.reduceSub, Nat.reduceMul, Nat.reduceDiv, SOper.again, same, sameBlk, sameCap, Nat.reduceBneDiff, s_draw2, s_pair, k_pair, asunder, SOper.into, Bool.not_false, Bool.not_true, CL, XS, Ends, gives_ret, h1, h2, h3]; exact ⟨_, rfl⟩
  · rw [hm]; simp -implicitDefEqProofs only [c35, ↓v_lenS, SB, POp.val, AOp.val, WOp.val, Lite.bin, intBin, strBin, eqv, eqMany, eq1, AV.asBool, AV.asInt, AV.asNat, AV.asPtr, AV.asStr, resVals, ResV.val, oneOr, wants, skipped, fillAt, putAt, capOf, optNat, bnd, Nat.reduceBEq, reduceIte, Nat.reduceAdd, Nat.reduceLeDiff, Nat.reduceEqDiff, Nat.reduceSub, Nat.reduceMul, Nat.reduceDiv, SOper.again, same, sameBlk, sameCap, Nat.reduceBneDiff, s_draw2, s_pair, k_pair, asunder, SOper.into, Bool.not_false, Bool.not_true, CL, XS, Ends, gives_ret, h1, h2]; exact ⟨_, rfl⟩
  · unfold consT at h3
    rw [hm]; simp -implicitDefEqProofs only [c35, ↓v_lenS, SB, POp.val, AOp.val, WOp.val, Lite.bin, intBin, strBin, eqv, eqMany, eq1, AV.asBool, AV.asInt, AV.asNat, AV.asPtr, AV.asStr, resVals, ResV.val, oneOr, wants, skipped, fillAt, putAt, capOf, optNat, bnd, Nat.reduceBEq, reduceIte, Nat.reduceAdd, Nat.reduceLeDiff, Nat.reduceEqDiff, Nat.reduceSub, Nat.reduceMul, Nat.reduceDiv, SOper.again, same, sameBlk, sameCap, Nat.reduceBneDiff, s_draw2, s_pair, k_pair, asunder, SOper.into, Bool.not_false, Bool.not_true, CL, XS, Ends, gives_ret, h1, h2, h3]; exact ⟨_, rfl⟩

/-! ### All of them -/

/-- a list, from some place on -/
theorem slice_vList {α : Type} {f : Bool} {es : Nat} {g : α → List AV} {l : List α} {j : Nat} (hg : ∀ x, (g x).length = es) (hj : j ≤ l.length) :
    ∃ y f', sliceOf es (vList f es g l) (some j) none none = some y ∧ ∀ H, shutV y H = some (vList f' es g (l.drop j), H) := by
  cases l with
  | nil =>
    obtain rfl : j = 0 := by simpa using hj
    refine ⟨.lst 0 0 (bif f then true else false) [], (bif f then true else false), ?_, fun H => ?_⟩
    · simp only [vList_nil, sliceOf, Option.getD_some, Option.getD_none]
      rw [if_pos ⟨by omega, by omega, by omega, .inr trivial⟩]
      cases f <;> simp
    · rw [List.drop_nil, vList_nil, shutV_lstF, L_zero]
  | cons x l =>
    have hl : (g x ++ l.flatMap g).length = (l.length + 1) * es := by
      have := flat_len hg (x :: l)
      simpa using this
    have hd : (((g x ++ l.flatMap g).drop (j * es)).take ((l.length + 1 - j) * es)) = ((x :: l).drop j).flatMap g := by
      have h1 : (g x ++ l.flatMap g) = (x :: l).flatMap g := by simp
      rw [h1, flat_drop hg, List.take_of_length_le]
      rw [flat_len hg, List.length_drop, List.length_cons]
      exact Nat.le_refl _
    refine ⟨.lst es (l.length + 1 - j) false (((x :: l).drop j).flatMap g), false, ?_, fun H => ?_⟩
    · simp only [vList_cons, sliceOf, Option.getD_some, Option.getD_none]
      simp only [List.length_cons] at hj
      rw [if_pos ⟨by omega, by omega, by omega, .inl trivial⟩, hd]
      rfl
    · rw [shutV_lstF]
      unfold vList
      rw [List.length_drop, List.length_cons]

theorem iaddr_vXsF {f : Bool} {l : List X} {j : Nat} {d : X} (h : l[j]? = some d) : iaddrV 4 (vList f 4 X.cells l) j = some (.ptr (.val d.cells) 0) := iaddr_at X.cells_len h

theorem all32 {g : FuncId} (ho : P3.own g = none) (hm : P3.mode g = 2) (p : X → Bool) (f : Bool) (l : List X) (hl : l.length ≤ 4611686018427387904) (h : ∀ x ∈ l, Ret P3 g [x.v] (.bool (p x))) : Ret P3 32 [.func g [], vList f 4 X.cells l] (.bool (l.all p)) := by
  refine Ret.of rfl (code32 _ _) rfl rfl (fun H => by simp -implicitDefEqProofs only [↓v_lenS, SB, POp.val, AOp.val, WOp.val, Lite.bin, intBin, strBin, eqv, eqMany, eq1, AV.asBool, AV.asInt, AV.asNat, AV.asPtr, AV.asStr, resVals, ResV.val, oneOr, wants, skipped, fillAt, putAt, capOf, optNat, bnd, Nat.reduceBEq, reduceIte, Nat.reduceAdd, Nat.reduceLeDiff, Nat.reduceEqDiff, Nat.reduceSub, Nat.reduceMul, Nat.reduceDiv, SOper.again, same, sameBlk, sameCap, Nat.reduceBneDiff, s_draw2, s_pair, k_pair, asunder, SOper.into, Bool.not_false, Bool.not_true, XS]) ?_
  refine ((Ev.all l h).and (Ev.ge (l.length + 1))).mono fun n hn H => ?_
  obtain ⟨ihn, hge⟩ := hn
  have hcall : ∀ (xs : List AV) (H : Heap), callV (callN P3 n) (.func g []) xs H = callS P3 n g (mapHM shutV (xs ++ []) H) := fun xs H => callV_s ho hm
  simp -implicitDefEqProofs only [c32, ↓v_lenS, SB, POp.val, AOp.val, WOp.val, Lite.bin, intBin, strBin, eqv, eqMany, eq1, AV.asBool, AV.asInt, AV.asNat, AV.asPtr, AV.asStr, resVals, ResV.val, oneOr, wants, skipped, fillAt, putAt, capOf, optNat, bnd, Nat.reduceBEq, reduceIte, Nat.reduceAdd, Nat.reduceLeDiff, Nat.reduceEqDiff, Nat.reduceSub, Nat.reduceMul, Nat.reduceDiv, SOper.again, same, sameBlk, sameCap, Nat.reduceBneDiff, s_draw2, s_pair, k_pair, asunder, SOper.into, Bool.not_false, Bool.not_true, CL, XS]
  refine loop_rounds l.length (fun i fr H => (∀ j, j < i → ∀ x, l[j]? = some x → p x = true) ∧ fr 0 = .func g [] ∧ fr 7 = vList f 4 X.cells l ∧ fr 8 = .int .i64 l.length ∧ fr 9 = .int .i64 i) ?_ ?_ n 0 _ _ (by omega) (by omega) ?_
  · rintro i fr H K' hi ⟨hall, h0, h7, h8, h9⟩ hKe hKr hK
    obtain ⟨x, hx⟩ : ∃ x, l[i]? = some x := ⟨l[i], List.getElem?_eq_getElem hi⟩
    have e1 := ihn x (List.mem_of_getElem? hx)
    have hlt : (i : Int) < (l.length : Int) := by omega
    have hw := wrap_succ hi (by omega)
    cases hp : p x with
    | true =>
      rw [hp] at e1
      have hnext : ∀ j, j < i + 1 → ∀ x, l[j]? = some x → p x = true := fun j hj y hy => by
        rcases Nat.lt_or_ge j i with h | h
        · exact hall j h y hy
        · obtain rfl : j = i := by omega
          rw [hx] at hy; simp only [Option.some.injEq] at hy; subst hy; exact hp
      obtain ⟨kx, tx, nx, lx⟩ := x
      rw [X.v_mk] at e1
      simp -implicitDefEqProofs only [c32_l0, ↓v_lenS, SB, POp.val, AOp.val, WOp.val, Lite.bin, intBin, strBin, eqv, eqMany, eq1, AV.asBool, AV.asInt, AV.asNat, AV.asPtr, AV.asStr, resVals, ResV.val, oneOr, wants, skipped, fillAt, putAt, capOf, optNat, bnd, Nat.reduceBEq, reduceIte, Nat.reduceAdd, Nat.reduceLeDiff, Nat.reduceEqDiff, Nat.reduceSub, Nat.reduceMul, Nat.reduceDiv, SOper.again, same, sameBlk, sameCap, Nat.reduceBneDiff, s_draw2, s_pair, k_pair, asunder, SOper.into, Bool.not_false, Bool.not_true, CL, XS, h0, h7, h8, h9, hlt, iaddr_vXsF hx, hcall, e1, hw]
      refine hK _ _ ⟨hnext, ?_⟩
      simp -implicitDefEqProofs only [↓v_lenS, SB, POp.val, AOp.val, WOp.val, Lite.bin, intBin, strBin, eqv, eqMany, eq1, AV.asBool, AV.asInt, AV.asNat, AV.asPtr, AV.asStr, resVals, ResV.val, oneOr, wants, skipped, fillAt, putAt, capOf, optNat, bnd, Nat.reduceBEq, reduceIte, Nat.reduceAdd, Nat.reduceLeDiff, Nat.reduceEqDiff, Nat.reduceSub, Nat.reduceMul, Nat.reduceDiv, SOper.again, same, sameBlk, sameCap, Nat.reduceBneDiff, s_draw2, s_pair, k_pair, asunder, SOper.into, Bool.not_false, Bool.not_true, h0, h7, h8]
    | false =>
      rw [hp] at e1
      have hno : l.all p = false := by
        rw [List.all_eq_false]
        exact ⟨x, List.mem_of_getElem? hx, by simp [hp]⟩
      obtain ⟨kx, tx, nx, lx⟩ := x
      rw [X.v_mk] at e1
      simp -implicitDefEqProofs only [c32_l0, ↓v_lenS, SB, POp.val, AOp.val, WOp.val, Lite.bin, intBin, strBin, eqv, eqMany, eq1, AV.asBool, AV.asInt, AV.asNat, AV.asPtr, AV.asStr, resVals, ResV.val, oneOr, wants, skipped, fillAt, putAt, capOf, optNat, bnd, Nat.reduceBEq, reduceIte, Nat.reduceAdd, Nat.reduceLeDiff, Nat.reduceEqDiff, Nat.reduceSub, Nat.reduceMul, Nat.reduceDiv, SOper.again, same, sameBlk, sameCap, Nat.reduceBneDiff, s_draw2, s_pair, k_pair, asunder, SOper.into, Bool.not_false, Bool.not_true, CL, XS, h0, h7, h8, h9, hlt, iaddr_vXsF hx, hcall, e1, hKr, gives_ret, hno]
      exact ⟨_, rfl⟩
  · rintro fr H K' ⟨hall, h0, h7, h8, h9⟩ hKe hKr
    have hyes : l.all p = true := by
      rw [List.all_eq_true]
      intro x hx
      obtain ⟨i, hi, rfl⟩ := List.getElem_of_mem hx
      exact hall i hi _ (List.getElem?_eq_getElem hi)
    simp -implicitDefEqProofs only [c32_l0, ↓v_lenS, SB, POp.val, AOp.val, WOp.val, Lite.bin, intBin, strBin, eqv, eqMany, eq1, AV.asBool, AV.asInt, AV.asNat, AV.asPtr, AV.asStr, resVals, ResV.val, oneOr, wants, skipped, fillAt, putAt, capOf, optNat, bnd, Nat.reduceBEq, reduceIte, Nat.reduceAdd, Nat.reduceLeDiff, Nat.reduceEqDiff, Nat.reduceSub, Nat.reduceMul, Nat.reduceDiv, SOper.again, same, sameBlk, sameCap, Nat.reduceBneDiff, s_draw2, s_pair, k_pair, asunder, SOper.into, Bool.not_false, Bool.not_true, XS, h0, h7, h8, h9, Int.lt_irrefl, hKe, gives_ret, hyes]
    exact ⟨_, rfl⟩
  · simp -implicitDefEqProofs only [↓v_lenS, SB, POp.val, AOp.val, WOp.val, Lite.bin, intBin, strBin, eqv, eqMany, eq1, AV.asBool, AV.asInt, AV.asNat, AV.asPtr, AV.asStr, resVals, ResV.val, oneOr, wants, skipped, fillAt, putAt, capOf, optNat, bnd, Nat.reduceBEq, reduceIte, Nat.reduceAdd, Nat.reduceLeDiff, Nat.reduceEqDiff, Nat.reduceSub, Nat.reduceMul, Nat.reduceDiv, SOper.again, same, sameBlk, sameCap, Nat.reduceBneDiff, s_draw2, s_pair, k_pair, asunder, SOper.into, Bool.not_false, Bool.not_true]
    exact ⟨fun j hj => by omega, rfl⟩

mutual
/-- are all arguments atoms? -/
def X.is : X → Bool
  | .mk k t _ a => X.iss a && (a.drop ((must k t).getD a.length)).all X.atom
def X.iss : List X → Bool
  | [] => true
  | x :: l => X.is x && X.iss l
end
theorem X.iss_eq (l : List X) : X.iss l = l.all X.is := by
  induction l with
  | nil => rfl
  | cons x l ih => rw [X.iss, ih, List.all_cons]

mutual
/-- what is applied is there -/
def X.apt : X → Prop
  | .mk k _ _ a => (k = 7 → a ≠ []) ∧ X.apts a
def X.apts : List X → Prop
  | [] => True
  | x :: l => x.apt ∧ X.apts l
end
theorem X.apts_iff (l : List X) : X.apts l ↔ ∀ d ∈ l, d.apt := by
  induction l with
  | nil => simp [X.apts]
  | cons d l ih => simp [X.apts, ih]

theorem must_le {k : Int} {t : Str} {a : List X} (h : k = 7 → a ≠ []) : (must k t).getD a.length ≤ a.length := by
  unfold must
  by_cases h7 : k = 7
  · rw [if_pos h7]
    exact List.length_pos_iff.2 (h h7)
  · rw [if_neg h7]
    split <;> simp

theorem is13 : ∀ x : X, x.fit → x.apt → Ret P3 13 [x.v] (.bool x.is) := X.indA fun k t ns l ih hf ha => by
  obtain ⟨f1, f2, f3⟩ := hf
  have f3 := (X.fits_iff l).1 f3
  obtain ⟨a1, a2⟩ := ha
  have a2 := (X.apts_iff l).1 a2
  have hle := must_le (t := t) a1
  obtain ⟨y, f', hy, hys⟩ := slice_vList (f := true) (es := 4) (g := X.cells) (l := l) X.cells_len hle
  have hy : sliceOf 4 (vXs l) (some ((must k t).getD l.length)) none none = some y := hy
  refine Ret.of rfl (code13 _ _) rfl rfl (fun H => by simp -implicitDefEqProofs only [mapHM_nil, mapHM_cons, X.shut, Option.bind_some, Option.map_some]) ?_
  refine ((all32 (g := 13) rfl rfl X.is true l (by omega) fun x hx => ih x hx (f3 x hx) (a2 x hx)).and ((first34 k t ns l).and (all32 (g := 33) rfl rfl X.atom f' (l.drop ((must k t).getD l.length)) (by rw [List.length_drop]; omega) fun x _ => atom33 x))).mono fun n hn H => ?_
  obtain ⟨e1, e2, e3⟩ := hn
  rw [X.is, X.iss_eq]
  rw [X.v_mk] at e2
  have e1 : ∀ H, callN P3 n 32 [.func 13 [], vXs l] H = some (.ret (.bool (l.all X.is)), H) := e1
  generalize (must k t).getD l.length = j at *
  cases hi : l.all X.is with
  | true =>
    rw [hi] at e1
    simp -implicitDefEqProofs only [c13, ↓v_lenS, SB, POp.val, AOp.val, WOp.val, Lite.bin, intBin, strBin, eqv, eqMany, eq1, AV.asBool, AV.asInt, AV.asNat, AV.asPtr, AV.asStr, resVals, ResV.val, oneOr, wants, skipped, fillAt, putAt, capOf, optNat, bnd, Nat.reduceBEq, reduceIte, Nat.reduceAdd, Nat.reduceLeDiff, Nat.reduceEqDiff, Nat.reduceSub, Nat.reduceMul, Nat.reduceDiv, SOper.again, same, sameBlk, sameCap, Nat.reduceBneDiff, s_draw2, s_pair, k_pair, asunder, SOper.into, Bool.not_false, Bool.not_true, CL, XS, e1, e2, hy, hys, e3, Ends, gives_ret]
    exact ⟨_, rfl⟩
  | false =>
    rw [hi] at e1
    simp -implicitDefEqProofs only [c13, ↓v_lenS, SB, POp.val, AOp.val, WOp.val, Lite.bin, intBin, strBin, eqv, eqMany, eq1, AV.asBool, AV.asInt, AV.asNat, AV.asPtr, AV.asStr, resVals, ResV.val, oneOr, wants, skipped, fillAt, putAt, capOf, optNat, bnd, Nat.reduceBEq, reduceIte, Nat.reduceAdd, Nat.reduceLeDiff, Nat.reduceEqDiff, Nat.reduceSub, Nat.reduceMul, Nat.reduceDiv, SOper.again, same, sameBlk, sameCap, Nat.reduceBneDiff, s_draw2, s_pair, k_pair, asunder, SOper.into, Bool.not_false, Bool.not_true, CL, XS, e1, Ends, gives_ret]
    exact ⟨_, rfl⟩

theorem is14 : ∀ x : X, x.fit → Ret P3 14 [x.v] (.bool x.is) := X.indA fun k t ns l ih hf => by
  obtain ⟨f1, f2, f3⟩ := hf
  have f3 := (X.fits_iff l).1 f3
  refine Ret.of rfl (code14 _ _) rfl rfl (fun H => by simp -implicitDefEqProofs only [mapHM_nil, mapHM_cons, X.shut, Option.bind_some, Option.map_some]) ?_
  refine ((Ev.all l fun x hx => ih x hx (f3 x hx)).and ((Ev.all l fun x _ => atom36 x).and ((lazy35 k t ns l).and (Ev.ge (l.length + 1))))).mono fun n hn H => ?_
  obtain ⟨ihn, han, e35, hge⟩ := hn
  rw [X.is, X.iss_eq]
  rw [X.v_mk] at e35
  simp -implicitDefEqProofs only [c14, ↓v_lenS, SB, POp.val, AOp.val, WOp.val, Lite.bin, intBin, strBin, eqv, eqMany, eq1, AV.asBool, AV.asInt, AV.asNat, AV.asPtr, AV.asStr, resVals, ResV.val, oneOr, wants, skipped, fillAt, putAt, capOf, optNat, bnd, Nat.reduceBEq, reduceIte, Nat.reduceAdd, Nat.reduceLeDiff, Nat.reduceEqDiff, Nat.reduceSub, Nat.reduceMul, Nat.reduceDiv, SOper.again, same, sameBlk, sameCap, Nat.reduceBneDiff, s_draw2, s_pair, k_pair, asunder, SOper.into, Bool.not_false, Bool.not_true, CL, XS, e35]
  have hz : (∃ m : Nat, must k t = some m ∧ lazyZ k t = m) ∨ (must k t = none ∧ lazyZ k t = -1) := by
    unfold lazyZ
    cases must k t with
    | none => exact .inr ⟨rfl, rfl⟩
    | some m => exact .inl ⟨m, rfl, rfl⟩
  refine loop_rounds l.length (fun i fr H => (∀ j, j < i → ∀ x, l[j]? = some x → x.is = true ∧ ((must k t).getD l.length ≤ j → x.atom = true)) ∧ H.t.get 0 = some (.row [.int .i64 k, .str t, vStrs ns, vXs l] 0 false (some 28)) ∧ fr 1 = .ptr (.new 0) 0 ∧ fr 3 = .int .i64 (lazyZ k t) ∧ fr 4 = .int .i64 i) ?_ ?_ n 0 _ _ (by omega) (by omega) ?_
  · rintro i fr H K' hi ⟨hall, g0, h1, h3, h4⟩ hKe hKr hK
    obtain ⟨x, hx⟩ : ∃ x, l[i]? = some x := ⟨l[i], List.getElem?_eq_getElem hi⟩
    have e1 := ihn x (List.mem_of_getElem? hx)
    have e2 := han x (List.mem_of_getElem? hx)
    have hlt : (i : Int) < (l.length : Int) := by omega
    have hw := wrap_succ hi (by omega)
    have hnext : x.is = true → ((must k t).getD l.length ≤ i → x.atom = true) → ∀ j, j < i + 1 → ∀ x, l[j]? = some x → x.is = true ∧ ((must k t).getD l.length ≤ j → x.atom = true) := fun p q j hj y hy => by
      rcases Nat.lt_or_ge j i with h | h
      · exact hall j h y hy
      · obtain rfl : j = i := by omega
        rw [hx] at hy; simp only [Option.some.injEq] at hy; subst hy; exact ⟨p, q⟩
    have hno1 : x.is = false → (l.all X.is && (l.drop ((must k t).getD l.length)).all X.atom) = false := fun h => by
      have : l.all X.is = false := by
        rw [List.all_eq_false]
        exact ⟨x, List.mem_of_getElem? hx, by simp [h]⟩
      rw [this, Bool.false_and]
    have hno2 : (must k t).getD l.length ≤ i → x.atom = false → (l.all X.is && (l.drop ((must k t).getD l.length)).all X.atom) = false := fun hm h => by
      have : (l.drop ((must k t).getD l.length)).all X.atom = false := by
        rw [List.all_eq_false]
        refine ⟨x, List.mem_of_getElem? (i := i - (must k t).getD l.length) ?_, by simp [h]⟩
        rw [List.getElem?_drop, show (must k t).getD l.length + (i - (must k t).getD l.length) = i by omega, hx]
      rw [this, Bool.and_false]
    have key : (x.is = true ∧ ((must k t).getD l.length ≤ i → x.atom = true)) ∨ x.is = false ∨ (x.is = true ∧ (must k t).getD l.length ≤ i ∧ x.atom = false) := by
      cases h1 : x.is with
      | false => exact .inr (.inl rfl)
      | true =>
        by_cases hm : (must k t).getD l.length ≤ i
        · cases h2 : x.atom with
          | true => exact .inl ⟨rfl, fun _ => rfl⟩
          | false => exact .inr (.inr ⟨rfl, hm, rfl⟩)
        · exact .inl ⟨rfl, fun h => absurd h hm⟩
    rcases key with ⟨p, q⟩ | p | ⟨p, hm, q⟩
    · have hnx := hnext p q
      rw [p] at e1
      obtain ⟨kx, tx, nx, lx⟩ := x
      rw [X.v_mk] at e1 e2
      rcases hz with ⟨m, hm, hz⟩ | ⟨hm, hz⟩
      · rw [hm] at q hnx
        simp only [Option.getD_some] at q hnx
        rw [hz] at h3
        by_cases hmi : m ≤ i
        · have hm' : (i : Int) ≥ (m : Int) := by omega
          rw [q hmi] at e2
          simp -implicitDefEqProofs only [c14_l0, ↓v_lenS, SB, POp.val, AOp.val, WOp.val, Lite.bin, intBin, strBin, eqv, eqMany, eq1, AV.asBool, AV.asInt, AV.asNat, AV.asPtr, AV.asStr, resVals, ResV.val, oneOr, wants, skipped, fillAt, putAt, capOf, optNat, bnd, Nat.reduceBEq, reduceIte, Nat.reduceAdd, Nat.reduceLeDiff, Nat.reduceEqDiff, Nat.reduceSub, Nat.reduceMul, Nat.reduceDiv, SOper.again, same, sameBlk, sameCap, Nat.reduceBneDiff, s_draw2, s_pair, k_pair, asunder, SOper.into, Bool.not_false, Bool.not_true, CL, XS, g0, h1, h3, h4, hlt, iaddr_vXs hx, e1, e2, hw, hm', ge_iff_le, Int.natCast_nonneg]
          refine hK _ _ ?_
          simp -implicitDefEqProofs only [↓v_lenS, SB, POp.val, AOp.val, WOp.val, Lite.bin, intBin, strBin, eqv, eqMany, eq1, AV.asBool, AV.asInt, AV.asNat, AV.asPtr, AV.asStr, resVals, ResV.val, oneOr, wants, skipped, fillAt, putAt, capOf, optNat, bnd, Nat.reduceBEq, reduceIte, Nat.reduceAdd, Nat.reduceLeDiff, Nat.reduceEqDiff, Nat.reduceSub, Nat.reduceMul, Nat.reduceDiv, SOper.again, same, sameBlk, sameCap, Nat.reduceBneDiff, s_draw2, s_pair, k_pair, asunder, SOper.into, Bool.not_false, Bool.not_true, g0, h1, h3, hz, hm, Option.getD_some]
          exact hnx
        · have hm' : ¬ (i : Int) ≥ (m : Int) := by omega
          simp -implicitDefEqProofs only [c14_l0, ↓v_lenS, SB, POp.val, AOp.val, WOp.val, Lite.bin, intBin, strBin, eqv, eqMany, eq1, AV.asBool, AV.asInt, AV.asNat, AV.asPtr, AV.asStr, resVals, ResV.val, oneOr, wants, skipped, fillAt, putAt, capOf, optNat, bnd, Nat.reduceBEq, reduceIte, Nat.reduceAdd, Nat.reduceLeDiff, Nat.reduceEqDiff, Nat.reduceSub, Nat.reduceMul, Nat.reduceDiv, SOper.again, same, sameBlk, sameCap, Nat.reduceBneDiff, s_draw2, s_pair, k_pair, asunder, SOper.into, Bool.not_false, Bool.not_true, CL, XS, g0, h1, h3, h4, hlt, iaddr_vXs hx, e1, e2, hw, hm', ge_iff_le, Int.natCast_nonneg]
          refine hK _ _ ?_
          simp -implicitDefEqProofs only [↓v_lenS, SB, POp.val, AOp.val, WOp.val, Lite.bin, intBin, strBin, eqv, eqMany, eq1, AV.asBool, AV.asInt, AV.asNat, AV.asPtr, AV.asStr, resVals, ResV.val, oneOr, wants, skipped, fillAt, putAt, capOf, optNat, bnd, Nat.reduceBEq, reduceIte, Nat.reduceAdd, Nat.reduceLeDiff, Nat.reduceEqDiff, Nat.reduceSub, Nat.reduceMul, Nat.reduceDiv, SOper.again, same, sameBlk, sameCap, Nat.reduceBneDiff, s_draw2, s_pair, k_pair, asunder, SOper.into, Bool.not_false, Bool.not_true, g0, h1, h3, hz, hm, Option.getD_some]
          exact hnx
      · rw [hm] at q hnx
        rw [hz] at h3
        have hn0 : ¬ (-1 : Int) ≥ 0 := by omega
        simp -implicitDefEqProofs only [c14_l0, ↓v_lenS, SB, POp.val, AOp.val, WOp.val, Lite.bin, intBin, strBin, eqv, eqMany, eq1, AV.asBool, AV.asInt, AV.asNat, AV.asPtr, AV.asStr, resVals, ResV.val, oneOr, wants, skipped, fillAt, putAt, capOf, optNat, bnd, Nat.reduceBEq, reduceIte, Nat.reduceAdd, Nat.reduceLeDiff, Nat.reduceEqDiff, Nat.reduceSub, Nat.reduceMul, Nat.reduceDiv, SOper.again, same, sameBlk, sameCap, Nat.reduceBneDiff, s_draw2, s_pair, k_pair, asunder, SOper.into, Bool.not_false, Bool.not_true, CL, XS, g0, h1, h3, h4, hlt, iaddr_vXs hx, e1, e2, hw, hn0]
        refine hK _ _ ?_
        simp -implicitDefEqProofs only [↓v_lenS, SB, POp.val, AOp.val, WOp.val, Lite.bin, intBin, strBin, eqv, eqMany, eq1, AV.asBool, AV.asInt, AV.asNat, AV.asPtr, AV.asStr, resVals, ResV.val, oneOr, wants, skipped, fillAt, putAt, capOf, optNat, bnd, Nat.reduceBEq, reduceIte, Nat.reduceAdd, Nat.reduceLeDiff, Nat.reduceEqDiff, Nat.reduceSub, Nat.reduceMul, Nat.reduceDiv, SOper.again, same, sameBlk, sameCap, Nat.reduceBneDiff, s_draw2, s_pair, k_pair, asunder, SOper.into, Bool.not_false, Bool.not_true, g0, h1, h3, hz, hm]
        exact hnx
    · have hno := hno1 p
      rw [p] at e1
      obtain ⟨kx, tx, nx, lx⟩ := x
      rw [X.v_mk] at e1 e2
      simp -implicitDefEqProofs only [c14_l0, ↓v_lenS, SB, POp.val, AOp.val, WOp.val, Lite.bin, intBin, strBin, eqv, eqMany, eq1, AV.asBool, AV.asInt, AV.asNat, AV.asPtr, AV.asStr, resVals, ResV.val, oneOr, wants, skipped, fillAt, putAt, capOf, optNat, bnd, Nat.reduceBEq, reduceIte, Nat.reduceAdd, Nat.reduceLeDiff, Nat.reduceEqDiff, Nat.reduceSub, Nat.reduceMul, Nat.reduceDiv, SOper.again, same, sameBlk, sameCap, Nat.reduceBneDiff, s_draw2, s_pair, k_pair, asunder, SOper.into, Bool.not_false, Bool.not_true, CL, XS, g0, h1, h3, h4, hlt, iaddr_vXs hx, e1, e2, hw, hKr, gives_ret, hno]
      exact ⟨_, rfl⟩
    · have hno := hno2 hm q
      rw [p] at e1
      rw [q] at e2
      obtain ⟨kx, tx, nx, lx⟩ := x
      rw [X.v_mk] at e1 e2
      rcases hz with ⟨m, hmm, hz⟩ | ⟨hmm, hz⟩
      · rw [hmm] at hm
        simp only [Option.getD_some] at hm
        rw [hz] at h3
        have hm' : (i : Int) ≥ (m : Int) := by omega
        simp -implicitDefEqProofs only [c14_l0, ↓v_lenS, SB, POp.val, AOp.val, WOp.val, Lite.bin, intBin, strBin, eqv, eqMany, eq1, AV.asBool, AV.asInt, AV.asNat, AV.asPtr, AV.asStr, resVals, ResV.val, oneOr, wants, skipped, fillAt, putAt, capOf, optNat, bnd, Nat.reduceBEq, reduceIte, Nat.reduceAdd, Nat.reduceLeDiff, Nat.reduceEqDiff, Nat.reduceSub, Nat.reduceMul, Nat.reduceDiv, SOper.again, same, sameBlk, sameCap, Nat.reduceBneDiff, s_draw2, s_pair, k_pair, asunder, SOper.into, Bool.not_false, Bool.not_true, CL, XS, g0, h1, h3, h4, hlt, iaddr_vXs hx, e1, e2, hw, hm', ge_iff_le, Int.natCast_nonneg, hKr, gives_ret, hno]
        exact ⟨_, rfl⟩
      · rw [hmm] at hm
        simp only [Option.getD_none] at hm
        omega
  · rintro fr H K' ⟨hall, g0, h1, h3, h4⟩ hKe hKr
    have hyes : (l.all X.is && (l.drop ((must k t).getD l.length)).all X.atom) = true := by
      rw [Bool.and_eq_true, List.all_eq_true, List.all_eq_true]
      refine ⟨fun x hx => ?_, fun x hx => ?_⟩
      · obtain ⟨i, hi, rfl⟩ := List.getElem_of_mem hx
        exact (hall i hi _ (List.getElem?_eq_getElem hi)).1
      · obtain ⟨i, hi, rfl⟩ := List.getElem_of_mem hx
        rw [List.getElem_drop]
        rw [List.length_drop] at hi
        exact (hall _ (by omega) _ (List.getElem?_eq_getElem (by omega))).2 (by omega)
    simp -implicitDefEqProofs only [c14_l0, ↓v_lenS, SB, POp.val, AOp.val, WOp.val, Lite.bin, intBin, strBin, eqv, eqMany, eq1, AV.asBool, AV.asInt, AV.asNat, AV.asPtr, AV.asStr, resVals, ResV.val, oneOr, wants, skipped, fillAt, putAt, capOf, optNat, bnd, Nat.reduceBEq, reduceIte, Nat.reduceAdd, Nat.reduceLeDiff, Nat.reduceEqDiff, Nat.reduceSub, Nat.reduceMul, Nat.reduceDiv, SOper.again, same, sameBlk, sameCap, Nat.reduceBneDiff, s_draw2, s_pair, k_pair, asunder, SOper.into, Bool.not_false, Bool.not_true, XS, g0, h1, h3, h4, Int.lt_irrefl, hKe, gives_ret, hyes]
    exact ⟨_, rfl⟩
  · simp -implicitDefEqProofs only [↓v_lenS, SB, POp.val, AOp.val, WOp.val, Lite.bin, intBin, strBin, eqv, eqMany, eq1, AV.asBool, AV.asInt, AV.asNat, AV.asPtr, AV.asStr, resVals, ResV.val, oneOr, wants, skipped, fillAt, putAt, capOf, optNat, bnd, Nat.reduceBEq, reduceIte, Nat.reduceAdd, Nat.reduceLeDiff, Nat.reduceEqDiff, Nat.reduceSub, Nat.reduceMul, Nat.reduceDiv, SOper.again, same, sameBlk, sameCap, Nat.reduceBneDiff, s_draw2, s_pair, k_pair, asunder, SOper.into, Bool.not_false, Bool.not_true]
    exact ⟨fun j hj => by omega, rfl⟩

end Go.Lite

/-
  Numbers' texts: of less than a hundred; names that are new.
-/
namespace Go.Lite
open Go Go.Proofs
set_option maxRecDepth 100000
set_option linter.unusedSimpArgs false
set_option linter.unusedVariables false

/-- a number's digits (of less than a hundred) -/
def numT (n : Nat) : Str := if n < 10 then [48 + n] else [48 + n / 10, 48 + n % 10]

theorem small58 (n : Nat) (hn : n < 100) : Ret P3 58 [.int .i64 n] (.str (numT n)) := by
  refine Ret.of rfl (code58 _ _) rfl rfl (fun H => by simp -implicitDefEqProofs only [↓v_lenS, SB, POp.val, AOp.val, WOp.val, Lite.bin, intBin, strBin, eqv, eqMany, eq1, AV.asBool, AV.asInt, AV.asNat, AV.asPtr, AV.asStr, resVals, ResV.val, oneOr, wants, skipped, fillAt, putAt, capOf, optNat, bnd, Nat.reduceBEq, reduceIte, Nat.reduceAdd, Nat.reduceLeDiff, Nat.reduceEqDiff, Nat.reduceSub, Nat.reduceMul, Nat.reduceDiv, SOper.again, same, sameBlk, sameCap, Nat.reduceBneDiff, s_draw2, s_pair, k_pair, asunder, SOper.into, Bool.not_false, Bool.not_true]) (Ev.of fun m H => ?_)
  by_cases h : n < 10
  · have hc : (n : Int) < 10 := by omega
    have hw : IntKind.i64.wrap ((n : Int) + 1) = ((n + 1 : Nat) : Int) := wrap_succ h (by omega)
    have hr : ((List.drop n [48, 49, 50, 51, 52, 53, 54, 55, 56, 57, 97, 98, 99, 100, 101, 102, 103, 104, 105, 106, 107, 108, 109, 110, 111, 112, 113, 114, 115, 116, 117, 118, 119, 120, 121, 122]).take (n + 1 - n)) = numT n := by
      have : ∀ n, n < 10 → ((List.drop n [48, 49, 50, 51, 52, 53, 54, 55, 56, 57, 97, 98, 99, 100, 101, 102, 103, 104, 105, 106, 107, 108, 109, 110, 111, 112, 113, 114, 115, 116, 117, 118, 119, 120, 121, 122]).take (n + 1 - n)) = numT n := by decide
      exact this n h
    have c1 : n ≤ n + 1 := by omega
    have c2 : n + 1 ≤ 36 := by omega
    simp -implicitDefEqProofs only [c58, ↓v_lenS, SB, POp.val, AOp.val, WOp.val, Lite.bin, intBin, strBin, eqv, eqMany, eq1, AV.asBool, AV.asInt, AV.asNat, AV.asPtr, AV.asStr, resVals, ResV.val, oneOr, wants, skipped, fillAt, putAt, capOf, optNat, bnd, Nat.reduceBEq, reduceIte, Nat.reduceAdd, Nat.reduceLeDiff, Nat.reduceEqDiff, Nat.reduceSub, Nat.reduceMul, Nat.reduceDiv, SOper.again, same, sameBlk, sameCap, Nat.reduceBneDiff, s_draw2, s_pair, k_pair, asunder, SOper.into, Bool.not_false, Bool.not_true, hc, hw, hr, c1, c2, Ends, gives_ret]
    exact ⟨_, rfl⟩
  · have hc : ¬ (n : Int) < 10 := by omega
    have hw : IntKind.i64.wrap ((n : Int) * 2) = ((n * 2 : Nat) : Int) := by rw [wrap64 (by omega) (by omega)]; omega
    have hw2 : IntKind.i64.wrap (((n * 2 : Nat) : Int) + 2) = ((n * 2 + 2 : Nat) : Int) := by rw [wrap64 (by omega) (by omega)]; omega
    have c1 : n * 2 ≤ n * 2 + 2 := by omega
    have c2 : n * 2 + 2 ≤ 200 := by omega
    generalize hS : [48, 48, 48, 49, 48, 50, 48, 51, 48, 52, 48, 53, 48, 54, 48, 55, 48, 56, 48, 57, 49, 48, 49, 49, 49, 50, 49, 51, 49, 52, 49, 53, 49, 54, 49, 55, 49, 56, 49, 57, 50, 48, 50, 49, 50, 50, 50, 51, 50, 52, 50, 53, 50, 54, 50, 55, 50, 56, 50, 57, 51, 48, 51, 49, 51, 50, 51, 51, 51, 52, 51, 53, 51, 54, 51, 55, 51, 56, 51, 57, 52, 48, 52, 49, 52, 50, 52, 51, 52, 52, 52, 53, 52, 54, 52, 55, 52, 56, 52, 57, 53, 48, 53, 49, 53, 50, 53, 51, 53, 52, 53, 53, 53, 54, 53, 55, 53, 56, 53, 57, 54, 48, 54, 49, 54, 50, 54, 51, 54, 52, 54, 53, 54, 54, 54, 55, 54, 56, 54, 57, 55, 48, 55, 49, 55, 50, 55, 51, 55, 52, 55, 53, 55, 54, 55, 55, 55, 56, 55, 57, 56, 48, 56, 49, 56, 50, 56, 51, 56, 52, 56, 53, 56, 54, 56, 55, 56, 56, 56, 57, 57, 48, 57, 49, 57, 50, 57, 51, 57, 52, 57, 53, 57, 54, 57, 55, 57, 56, 57, (57 : Nat)] = S
    have hl : S.length = 200 := by rw [← hS]; rfl
    have hr : (S.drop (n * 2)).take (n * 2 + 2 - n * 2) = numT n := by
      have : ∀ n, n < 100 → ¬ n < 10 → (S.drop (n * 2)).take (n * 2 + 2 - n * 2) = numT n := by rw [← hS]; decide
      exact this n hn h
    simp -implicitDefEqProofs only [c58, ↓v_lenS, SB, POp.val, AOp.val, WOp.val, Lite.bin, intBin, strBin, eqv, eqMany, eq1, AV.asBool, AV.asInt, AV.asNat, AV.asPtr, AV.asStr, resVals, ResV.val, oneOr, wants, skipped, fillAt, putAt, capOf, optNat, bnd, Nat.reduceBEq, reduceIte, Nat.reduceAdd, Nat.reduceLeDiff, Nat.reduceEqDiff, Nat.reduceSub, Nat.reduceMul, Nat.reduceDiv, SOper.again, same, sameBlk, sameCap, Nat.reduceBneDiff, s_draw2, s_pair, k_pair, asunder, SOper.into, Bool.not_false, Bool.not_true, hS, hl, hc, hw, hw2, hr, c1, c2, Ends, gives_ret]
    exact ⟨_, rfl⟩

theorem itoa57 (n : Nat) (hn : n < 100) : Ret P3 57 [.int .i64 n, .int .i64 10] (.str (numT n)) := by
  refine Ret.of rfl (code57 _ _) rfl rfl (fun H => by simp -implicitDefEqProofs only [↓v_lenS, SB, POp.val, AOp.val, WOp.val, Lite.bin, intBin, strBin, eqv, eqMany, eq1, AV.asBool, AV.asInt, AV.asNat, AV.asPtr, AV.asStr, resVals, ResV.val, oneOr, wants, skipped, fillAt, putAt, capOf, optNat, bnd, Nat.reduceBEq, reduceIte, Nat.reduceAdd, Nat.reduceLeDiff, Nat.reduceEqDiff, Nat.reduceSub, Nat.reduceMul, Nat.reduceDiv, SOper.again, same, sameBlk, sameCap, Nat.reduceBneDiff, s_draw2, s_pair, k_pair, asunder, SOper.into, Bool.not_false, Bool.not_true]) ((small58 n hn).mono fun m e H => ?_)
  have hc : (n : Int) < 100 := by omega
  simp -implicitDefEqProofs only [c57, ↓v_lenS, SB, POp.val, AOp.val, WOp.val, Lite.bin, intBin, strBin, eqv, eqMany, eq1, AV.asBool, AV.asInt, AV.asNat, AV.asPtr, AV.asStr, resVals, ResV.val, oneOr, wants, skipped, fillAt, putAt, capOf, optNat, bnd, Nat.reduceBEq, reduceIte, Nat.reduceAdd, Nat.reduceLeDiff, Nat.reduceEqDiff, Nat.reduceSub, Nat.reduceMul, Nat.reduceDiv, SOper.again, same, sameBlk, sameCap, Nat.reduceBneDiff, s_draw2, s_pair, k_pair, asunder, SOper.into, Bool.not_false, Bool.not_true, CL, hc, e, Int.natCast_nonneg, Int.reduceBEq, Ends, gives_ret]
  exact ⟨_, rfl⟩

theorem itoa56 (n : Nat) (hn : n < 100) : Ret P3 56 [.int .i64 n] (.str (numT n)) := by
  refine Ret.of rfl (code56 _ _) rfl rfl (fun H => by simp -implicitDefEqProofs only [↓v_lenS, SB, POp.val, AOp.val, WOp.val, Lite.bin, intBin, strBin, eqv, eqMany, eq1, AV.asBool, AV.asInt, AV.asNat, AV.asPtr, AV.asStr, resVals, ResV.val, oneOr, wants, skipped, fillAt, putAt, capOf, optNat, bnd, Nat.reduceBEq, reduceIte, Nat.reduceAdd, Nat.reduceLeDiff, Nat.reduceEqDiff, Nat.reduceSub, Nat.reduceMul, Nat.reduceDiv, SOper.again, same, sameBlk, sameCap, Nat.reduceBneDiff, s_draw2, s_pair, k_pair, asunder, SOper.into, Bool.not_false, Bool.not_true]) ((itoa57 n hn).mono fun m e H => ?_)
  simp -implicitDefEqProofs only [c56, ↓v_lenS, SB, POp.val, AOp.val, WOp.val, Lite.bin, intBin, strBin, eqv, eqMany, eq1, AV.asBool, AV.asInt, AV.asNat, AV.asPtr, AV.asStr, resVals, ResV.val, oneOr, wants, skipped, fillAt, putAt, capOf, optNat, bnd, Nat.reduceBEq, reduceIte, Nat.reduceAdd, Nat.reduceLeDiff, Nat.reduceEqDiff, Nat.reduceSub, Nat.reduceMul, Nat.reduceDiv, SOper.again, same, sameBlk, sameCap, Nat.reduceBneDiff, s_draw2, s_pair, k_pair, asunder, SOper.into, Bool.not_false, Bool.not_true, CL, e, Ends, gives_ret]
  exact ⟨_, rfl⟩

theorem itoa54 (n : Nat) (hn : n < 100) : Ret P3 54 [.int .i64 n] (.str (numT n)) := by
  refine Ret.of rfl (code54 _ _) rfl rfl (fun H => by simp -implicitDefEqProofs only [↓v_lenS, SB, POp.val, AOp.val, WOp.val, Lite.bin, intBin, strBin, eqv, eqMany, eq1, AV.asBool, AV.asInt, AV.asNat, AV.asPtr, AV.asStr, resVals, ResV.val, oneOr, wants, skipped, fillAt, putAt, capOf, optNat, bnd, Nat.reduceBEq, reduceIte, Nat.reduceAdd, Nat.reduceLeDiff, Nat.reduceEqDiff, Nat.reduceSub, Nat.reduceMul, Nat.reduceDiv, SOper.again, same, sameBlk, sameCap, Nat.reduceBneDiff, s_draw2, s_pair, k_pair, asunder, SOper.into, Bool.not_false, Bool.not_true]) ((itoa56 n hn).mono fun m e H => ?_)
  simp -implicitDefEqProofs only [c54, ↓v_lenS, SB, POp.val, AOp.val, WOp.val, Lite.bin, intBin, strBin, eqv, eqMany, eq1, AV.asBool, AV.asInt, AV.asNat, AV.asPtr, AV.asStr, resVals, ResV.val, oneOr, wants, skipped, fillAt, putAt, capOf, optNat, bnd, Nat.reduceBEq, reduceIte, Nat.reduceAdd, Nat.reduceLeDiff, Nat.reduceEqDiff, Nat.reduceSub, Nat.reduceMul, Nat.reduceDiv, SOper.again, same, sameBlk, sameCap, Nat.reduceBneDiff, s_draw2, s_pair, k_pair, asunder, SOper.into, Bool.not_false, Bool.not_true, CL, e, Ends, gives_ret]
  exact ⟨_, rfl⟩

theorem digit55 (n : Nat) (hn : n < 10) : Ret P3 55 [.int .i64 n] (.str [48 + n]) := by
  refine Ret.of rfl (code55 _ _) rfl rfl (fun H => by simp -implicitDefEqProofs only [↓v_lenS, SB, POp.val, AOp.val, WOp.val, Lite.bin, intBin, strBin, eqv, eqMany, eq1, AV.asBool, AV.asInt, AV.asNat, AV.asPtr, AV.asStr, resVals, ResV.val, oneOr, wants, skipped, fillAt, putAt, capOf, optNat, bnd, Nat.reduceBEq, reduceIte, Nat.reduceAdd, Nat.reduceLeDiff, Nat.reduceEqDiff, Nat.reduceSub, Nat.reduceMul, Nat.reduceDiv, SOper.again, same, sameBlk, sameCap, Nat.reduceBneDiff, s_draw2, s_pair, k_pair, asunder, SOper.into, Bool.not_false, Bool.not_true]) (Ev.of fun m H => ?_)
  have hc : ¬ (n : Int) ≥ 10 := by omega
  have hw : IntKind.i64.wrap (48 + (n : Int)) = ((48 + n : Nat) : Int) := by rw [wrap64 (by omega) (by omega)]; omega
  have hw2 : IntKind.u8.wrap ((48 + n : Nat) : Int) = ((48 + n : Nat) : Int) := by
    have : ∀ n : Nat, n < 10 → IntKind.u8.wrap ((48 + n : Nat) : Int) = ((48 + n : Nat) : Int) := by decide
    exact this n hn
  have hb : bytesOf [AV.int .u8 ((48 + n : Nat) : Int)] = some [48 + n] := by
    have : ∀ n : Nat, n < 10 → bytesOf [AV.int .u8 ((48 + n : Nat) : Int)] = some [48 + n] := by decide
    exact this n hn
  simp -implicitDefEqProofs only [c55, ↓v_lenS, SB, POp.val, AOp.val, WOp.val, Lite.bin, intBin, strBin, eqv, eqMany, eq1, AV.asBool, AV.asInt, AV.asNat, AV.asPtr, AV.asStr, resVals, ResV.val, oneOr, wants, skipped, fillAt, putAt, capOf, optNat, bnd, Nat.reduceBEq, reduceIte, Nat.reduceAdd, Nat.reduceLeDiff, Nat.reduceEqDiff, Nat.reduceSub, Nat.reduceMul, Nat.reduceDiv, SOper.again, same, sameBlk, sameCap, Nat.reduceBneDiff, s_draw2, s_pair, k_pair, asunder, SOper.into, Bool.not_false, Bool.not_true, hc, hw, hw2, hb, Ends, gives_ret, strOfBytes]
  exact ⟨_, rfl⟩

theorem digits55 (n : Nat) (hn : n < 100) : Ret P3 55 [.int .i64 n] (.str (numT n)) := by
  unfold numT
  by_cases h : n < 10
  · rw [if_pos h]; exact digit55 n h
  · rw [if_neg h]
    refine Ret.of rfl (code55 _ _) rfl rfl (fun H => by simp -implicitDefEqProofs only [↓v_lenS, SB, POp.val, AOp.val, WOp.val, Lite.bin, intBin, strBin, eqv, eqMany, eq1, AV.asBool, AV.asInt, AV.asNat, AV.asPtr, AV.asStr, resVals, ResV.val, oneOr, wants, skipped, fillAt, putAt, capOf, optNat, bnd, Nat.reduceBEq, reduceIte, Nat.reduceAdd, Nat.reduceLeDiff, Nat.reduceEqDiff, Nat.reduceSub, Nat.reduceMul, Nat.reduceDiv, SOper.again, same, sameBlk, sameCap, Nat.reduceBneDiff, s_draw2, s_pair, k_pair, asunder, SOper.into, Bool.not_false, Bool.not_true]) (((digit55 (n / 10) (by omega)).and (digit55 (n % 10) (by omega))).mono fun m e H => ?_)
    obtain ⟨e1, e2⟩ := e
    have hc : (n : Int) ≥ 10 := by omega
    have hq : IntKind.i64.wrap ((n : Int).tdiv 10) = ((n / 10 : Nat) : Int) := by
      rw [Int.tdiv_eq_ediv_of_nonneg (by omega), wrap64 (by omega) (by omega)]; omega
    have hr : IntKind.i64.wrap ((n : Int).tmod 10) = ((n % 10 : Nat) : Int) := by
      rw [Int.tmod_eq_emod_of_nonneg (by omega), wrap64 (by omega) (by omega)]; omega
    have hr' : (n : Int).tmod 10 = ((n % 10 : Nat) : Int) := by rw [Int.tmod_eq_emod_of_nonneg (by omega)]; omega
    have h10 : ((10 : Int) == 0) = false := rfl
    have h10' : ¬ (10 : Int) = 0 := by omega
    simp -implicitDefEqProofs only [c55, ↓v_lenS, SB, POp.val, AOp.val, WOp.val, Lite.bin, intBin, strBin, eqv, eqMany, eq1, AV.asBool, AV.asInt, AV.asNat, AV.asPtr, AV.asStr, resVals, ResV.val, oneOr, wants, skipped, fillAt, putAt, capOf, optNat, bnd, Nat.reduceBEq, reduceIte, Nat.reduceAdd, Nat.reduceLeDiff, Nat.reduceEqDiff, Nat.reduceSub, Nat.reduceMul, Nat.reduceDiv, SOper.again, same, sameBlk, sameCap, Nat.reduceBneDiff, s_draw2, s_pair, k_pair, asunder, SOper.into, Bool.not_false, Bool.not_true, CL, hc, hq, hr, hr', h10, h10', e1, e2, Ends, gives_ret]
    exact ⟨_, rfl⟩

end Go.Lite

/-
  Names that are new; a name's term; a binding.
-/
namespace Go.Lite
open Go Go.Proofs
set_option maxRecDepth 100000
set_option linter.unusedSimpArgs false
set_option linter.unusedVariables false

theorem numT_len (n : Nat) : (numT n).length ≤ 2 := by unfold numT; split <;> simp
/-- a new name, by its number -/
def pct (n : Nat) : Str := [37, 46] ++ numT n

theorem name50 (c : Nat) (hc : c + 1 < 100) : Ev fun n => ∀ (H : Heap) (k0 : Nat) (ty : Option Nat), HLow H → H.t.get k0 = some (.row [.int .i64 c] 0 false ty) →
    Gives (call1 P3 n 50 [.ptr (.new k0) 0] H) fun v H' => v = .str (pct (c + 1)) ∧ H'.t.get k0 = some (.row [.int .i64 (c + 1 : Nat)] 0 false ty) ∧ HKeep (only k0) H H' := by
  refine Ev.succ ((itoa54 (c + 1) hc).mono fun n e H k0 ty low g0 => ?_)
  rw [call1_code (P := P3) (sf := c50) (code50 _ _) rfl]
  refine gives_settled ?_
  have hw : IntKind.i64.wrap ((c : Int) + 1) = ((c + 1 : Nat) : Int) := wrap_succ (n := c + 1) (by omega) (by omega)
  have hk0 := low.lt g0
  have hl : 2 + (numT (c + 1)).length ≤ 4611686018427387904 := by have := numT_len (c + 1); omega
  simp -implicitDefEqProofs only [c50, ↓v_lenS, SB, POp.val, AOp.val, WOp.val, Lite.bin, intBin, strBin, eqv, eqMany, eq1, AV.asBool, AV.asInt, AV.asNat, AV.asPtr, AV.asStr, resVals, ResV.val, oneOr, wants, skipped, fillAt, putAt, capOf, optNat, bnd, Nat.reduceBEq, reduceIte, Nat.reduceAdd, Nat.reduceLeDiff, Nat.reduceEqDiff, Nat.reduceSub, Nat.reduceMul, Nat.reduceDiv, SOper.again, same, sameBlk, sameCap, Nat.reduceBneDiff, s_draw2, s_pair, k_pair, asunder, SOper.into, Bool.not_false, Bool.not_true, CL, g0, hw, e, hl, gives_ret]
  refine ⟨_, _, rfl, rfl, ?_, HKeep.put (X := only k0) (fun _ => rfl) hk0⟩
  rw [h_gput, if_pos rfl]

theorem next52 (c : Nat) (hc : c + 1 < 100) : Ev fun n => ∀ (H : Heap) (k0 : Nat) (ty : Option Nat), HLow H → H.t.get k0 = some (.row [.str [37, 46], .int .i64 c] 0 false ty) →
    Gives (call1 P3 n 52 [.ptr (.new k0) 0] H) fun v H' => v = .str (pct (c + 1)) ∧ H'.t.get k0 = some (.row [.str [37, 46], .int .i64 (c + 1 : Nat)] 0 false ty) ∧ HKeep (only k0) H H' := by
  refine Ev.succ ((digits55 (c + 1) hc).mono fun n e H k0 ty low g0 => ?_)
  rw [call1_code (P := P3) (sf := c52) (code52 _ _) rfl]
  refine gives_settled ?_
  have hw : IntKind.i64.wrap ((c : Int) + 1) = ((c + 1 : Nat) : Int) := wrap_succ (n := c + 1) (by omega) (by omega)
  have hk0 := low.lt g0
  have hl : 2 + (numT (c + 1)).length ≤ 4611686018427387904 := by have := numT_len (c + 1); omega
  simp -implicitDefEqProofs only [c52, ↓v_lenS, SB, POp.val, AOp.val, WOp.val, Lite.bin, intBin, strBin, eqv, eqMany, eq1, AV.asBool, AV.asInt, AV.asNat, AV.asPtr, AV.asStr, resVals, ResV.val, oneOr, wants, skipped, fillAt, putAt, capOf, optNat, bnd, Nat.reduceBEq, reduceIte, Nat.reduceAdd, Nat.reduceLeDiff, Nat.reduceEqDiff, Nat.reduceSub, Nat.reduceMul, Nat.reduceDiv, SOper.again, same, sameBlk, sameCap, Nat.reduceBneDiff, s_draw2, s_pair, k_pair, asunder, SOper.into, Bool.not_false, Bool.not_true, CL, g0, hw, e, hl, gives_ret]
  refine ⟨_, _, rfl, rfl, ?_, HKeep.put (X := only k0) (fun _ => rfl) hk0⟩
  rw [h_gput, if_pos rfl]

def varX (s : Str) : X := .mk 5 s [] []
def bindX (s : Str) (x y : X) : X := .mk 9 [] [s] [x, y]

theorem vStrs_one (s : Str) : vStrs [s] = .lst 1 1 false [.str s] := rfl
theorem vXs_two (x y : X) : vXs [x, y] = .lst 4 2 false (x.cells ++ y.cells) := by
  simp only [vXs, vList_cons, List.flatMap_cons, List.flatMap_nil, List.append_nil, List.length_cons, List.length_nil]

theorem var25 (s : Str) : Ret P3 25 [.str s] (varX s).v := by
  refine Ret.of rfl (code25 _ _) rfl rfl (fun H => by simp -implicitDefEqProofs only [↓v_lenS, SB, POp.val, AOp.val, WOp.val, Lite.bin, intBin, strBin, eqv, eqMany, eq1, AV.asBool, AV.asInt, AV.asNat, AV.asPtr, AV.asStr, resVals, ResV.val, oneOr, wants, skipped, fillAt, putAt, capOf, optNat, bnd, Nat.reduceBEq, reduceIte, Nat.reduceAdd, Nat.reduceLeDiff, Nat.reduceEqDiff, Nat.reduceSub, Nat.reduceMul, Nat.reduceDiv, SOper.again, same, sameBlk, sameCap, Nat.reduceBneDiff, s_draw2, s_pair, k_pair, asunder, SOper.into, Bool.not_false, Bool.not_true]) (Ev.of fun n H => ?_)
  simp -implicitDefEqProofs only [c25, ↓v_lenS, SB, POp.val, AOp.val, WOp.val, Lite.bin, intBin, strBin, eqv, eqMany, eq1, AV.asBool, AV.asInt, AV.asNat, AV.asPtr, AV.asStr, resVals, ResV.val, oneOr, wants, skipped, fillAt, putAt, capOf, optNat, bnd, Nat.reduceBEq, reduceIte, Nat.reduceAdd, Nat.reduceLeDiff, Nat.reduceEqDiff, Nat.reduceSub, Nat.reduceMul, Nat.reduceDiv, SOper.again, same, sameBlk, sameCap, Nat.reduceBneDiff, s_draw2, s_pair, k_pair, asunder, SOper.into, Bool.not_false, Bool.not_true, CL, varX, XS, vStrs_nil, vXs_nil, Ends, gives_ret]
  exact ⟨_, rfl⟩

theorem bind27 (s : Str) (x y : X) : Ret P3 27 [.str s, x.v, y.v] (bindX s x y).v := by
  refine Ret.of rfl (code27 _ _) rfl rfl (fun H => by simp -implicitDefEqProofs only [↓v_lenS, SB, POp.val, AOp.val, WOp.val, Lite.bin, intBin, strBin, eqv, eqMany, eq1, AV.asBool, AV.asInt, AV.asNat, AV.asPtr, AV.asStr, resVals, ResV.val, oneOr, wants, skipped, fillAt, putAt, capOf, optNat, bnd, Nat.reduceBEq, reduceIte, Nat.reduceAdd, Nat.reduceLeDiff, Nat.reduceEqDiff, Nat.reduceSub, Nat.reduceMul, Nat.reduceDiv, SOper.again, same, sameBlk, sameCap, Nat.reduceBneDiff, s_draw2, s_pair, k_pair, asunder, SOper.into, Bool.not_false, Bool.not_true, X.shut]) (Ev.of fun n H => ?_)
  obtain ⟨kx, tx, nx, lx⟩ := x
  obtain ⟨ky, ty, ny, ly⟩ := y
  simp -implicitDefEqProofs only [c27, ↓v_lenS, SB, POp.val, AOp.val, WOp.val, Lite.bin, intBin, strBin, eqv, eqMany, eq1, AV.asBool, AV.asInt, AV.asNat, AV.asPtr, AV.asStr, resVals, ResV.val, oneOr, wants, skipped, fillAt, putAt, capOf, optNat, bnd, Nat.reduceBEq, reduceIte, Nat.reduceAdd, Nat.reduceLeDiff, Nat.reduceEqDiff, Nat.reduceSub, Nat.reduceMul, Nat.reduceDiv, SOper.again, same, sameBlk, sameCap, Nat.reduceBneDiff, s_draw2, s_pair, k_pair, asunder, SOper.into, Bool.not_false, Bool.not_true, CL, bindX, XS, vStrs_one, vXs_two, Ends, gives_ret]
  exact ⟨_, rfl⟩

end Go.Lite

/-
  Arguments by name, as a function of terms.
-/
namespace Go.Lite
open Go Go.Proofs
set_option maxRecDepth 100000
set_option linter.unusedSimpArgs false
set_option linter.unusedVariables false

def bindAll (l : List (Str × X)) (e : X) : X := l.foldr (fun p e => bindX p.1 p.2 e) e

mutual
/-- a term, its arguments by name; how many names there are then -/
def X.nrm : X → Nat → X × Nat
  | .mk k t ns a, c => (bindAll (X.nrms a ((must k t).getD a.length) 0 c).2.1 (.mk k t ns (X.nrms a ((must k t).getD a.length) 0 c).1), (X.nrms a ((must k t).getD a.length) 0 c).2.2)
/-- parts, from the i-th one on; those from the m-th on must be atoms: the parts, what is bound around them, how many names there are then -/
def X.nrms : List X → Nat → Nat → Nat → List X × List (Str × X) × Nat
  | [], _, _, c => ([], [], c)
  | x :: l, m, i, c =>
    if m ≤ i ∧ (x.nrm c).1.atom = false then
      (varX (pct ((x.nrm c).2 + 1)) :: (X.nrms l m (i + 1) ((x.nrm c).2 + 1)).1, (pct ((x.nrm c).2 + 1), (x.nrm c).1) :: (X.nrms l m (i + 1) ((x.nrm c).2 + 1)).2.1, (X.nrms l m (i + 1) ((x.nrm c).2 + 1)).2.2)
    else ((x.nrm c).1 :: (X.nrms l m (i + 1) (x.nrm c).2).1, (X.nrms l m (i + 1) (x.nrm c).2).2.1, (X.nrms l m (i + 1) (x.nrm c).2).2.2)
end

theorem nrms_append (l l' : List X) (m i c : Nat) : X.nrms (l ++ l') m i c =
    ((X.nrms l m i c).1 ++ (X.nrms l' m (i + l.length) (X.nrms l m i c).2.2).1, (X.nrms l m i c).2.1 ++ (X.nrms l' m (i + l.length) (X.nrms l m i c).2.2).2.1, (X.nrms l' m (i + l.length) (X.nrms l m i c).2.2).2.2) := by
  induction l generalizing i c with
  | nil => simp [X.nrms]
  | cons x l ih =>
    simp only [List.cons_append, X.nrms, ih, List.length_cons, show i + (l.length + 1) = i + 1 + l.length by omega]
    split <;> rfl

/-- one part more -/
theorem nrms_take {l : List X} {j : Nat} {x : X} (h : l[j]? = some x) (m c : Nat) : X.nrms (l.take (j + 1)) m 0 c =
    if m ≤ j ∧ (x.nrm (X.nrms (l.take j) m 0 c).2.2).1.atom = false then
      ((X.nrms (l.take j) m 0 c).1 ++ [varX (pct ((x.nrm (X.nrms (l.take j) m 0 c).2.2).2 + 1))], (X.nrms (l.take j) m 0 c).2.1 ++ [(pct ((x.nrm (X.nrms (l.take j) m 0 c).2.2).2 + 1), (x.nrm (X.nrms (l.take j) m 0 c).2.2).1)], (x.nrm (X.nrms (l.take j) m 0 c).2.2).2 + 1)
    else ((X.nrms (l.take j) m 0 c).1 ++ [(x.nrm (X.nrms (l.take j) m 0 c).2.2).1], (X.nrms (l.take j) m 0 c).2.1, (x.nrm (X.nrms (l.take j) m 0 c).2.2).2) := by
  have hj := (List.getElem?_eq_some_iff.1 h).1
  have hlen : (l.take j).length = j := by rw [List.length_take]; omega
  rw [List.take_add_one, h, Option.toList_some, nrms_append]
  simp only [X.nrms, hlen, Nat.zero_add]
  split
  · rfl
  · simp

theorem nrms_le_of (l : List X) (h : ∀ x ∈ l, ∀ c, c ≤ (x.nrm c).2) (m i c : Nat) : c ≤ (X.nrms l m i c).2.2 := by
  induction l generalizing i c with
  | nil => simp [X.nrms]
  | cons x l ih =>
    have h1 := h x (by simp) c
    rw [X.nrms]
    split
    · have h2 := ih (fun y hy => h y (by simp [hy])) (i + 1) ((x.nrm c).2 + 1)
      simp only []; omega
    · have h2 := ih (fun y hy => h y (by simp [hy])) (i + 1) (x.nrm c).2
      simp only []; omega

theorem nrm_le : ∀ (x : X) (c : Nat), c ≤ (x.nrm c).2 := X.indA fun k t ns a ih c => by
  rw [X.nrm]
  exact nrms_le_of a ih _ _ _

theorem nrms_le (l : List X) (m i c : Nat) : c ≤ (X.nrms l m i c).2.2 := nrms_le_of l (fun x _ => nrm_le x) m i c

theorem nrms_len (l : List X) (m i c : Nat) : (X.nrms l m i c).1.length = l.length := by
  induction l generalizing i c with
  | nil => simp [X.nrms]
  | cons x l ih =>
    rw [X.nrms]
    split <;> simp [ih]

theorem nrms_lets_len (l : List X) (m i c : Nat) : (X.nrms l m i c).2.1.length ≤ l.length ∧ c + (X.nrms l m i c).2.1.length ≤ (X.nrms l m i c).2.2 := by
  induction l generalizing i c with
  | nil => simp [X.nrms]
  | cons x l ih =>
    have h1 := nrm_le x c
    rw [X.nrms]
    split
    · have := ih (i + 1) ((x.nrm c).2 + 1)
      simp only [List.length_cons]; omega
    · have := ih (i + 1) (x.nrm c).2
      simp only [List.length_cons]; omega

theorem nrms_take_le (l : List X) (m j c : Nat) : (X.nrms (l.take j) m 0 c).2.2 ≤ (X.nrms l m 0 c).2.2 := by
  conv => rhs; rw [← List.take_append_drop j l, nrms_append]
  exact nrms_le _ _ _ _

end Go.Lite

/-
  Bindings about bindings, as they lie in rows; they are told as content.
-/
namespace Go.Lite
open Go Go.Proofs
set_option maxRecDepth 100000
set_option linter.unusedSimpArgs false
set_option linter.unusedVariables false

theorem flat_snoc {α : Type} {g : α → List AV} (l : List α) (x : α) : (l ++ [x]).flatMap g = l.flatMap g ++ g x := by simp

/-- the cells of the bindings l about x: rows from B on, below b -/
inductive Chain (B : Nat) (H : Heap) (x : X) : List (Str × X) → List AV → Nat → Prop where
  | nil {b : Nat} : B ≤ b → Chain B H x [] x.cells b
  | cons {s : Str} {y : X} {l : List (Str × X)} {cells : List AV} {b r : Nat} : Chain B H x l cells b → b ≤ r → H.t.get r = some (.row (y.cells ++ cells) 4 false (some 28)) →
      Chain B H x ((s, y) :: l) [.int .i64 9, .str [], .lst 1 1 true [.str s], .slice (.new r) 0 2 (.gro 4)] (r + 1)

theorem Chain.le {B : Nat} {H : Heap} {x : X} {l : List (Str × X)} {cells : List AV} {b : Nat} (h : Chain B H x l cells b) : B ≤ b := by
  induction h with
  | nil h => exact h
  | cons _ h _ ih => omega

theorem Chain.len {B : Nat} {H : Heap} {x : X} {l : List (Str × X)} {cells : List AV} {b : Nat} (h : Chain B H x l cells b) : cells.length = 4 := by
  cases h with
  | nil h => exact X.cells_len x
  | cons _ h _ => rfl

theorem Chain.flat {B : Nat} {H : Heap} {x : X} {l : List (Str × X)} {cells : List AV} {b : Nat} (h : Chain B H x l cells b) : cells.all AV.flat = true := by
  cases h with
  | nil h => exact X.flat x
  | cons _ h _ => rfl

/-- other rows do not count -/
theorem Chain.keep {B : Nat} {H H' : Heap} {x : X} {l : List (Str × X)} {cells : List AV} {b : Nat} (h : Chain B H x l cells b) (k : ∀ j, B ≤ j → j < b → H'.t.get j = H.t.get j) : Chain B H' x l cells b := by
  induction h with
  | nil h => exact .nil h
  | cons c h g ih =>
    have := c.le
    exact .cons (ih fun j h1 h2 => k j h1 (by omega)) h (by rw [k _ (by omega) (by omega)]; exact g)

theorem Chain.mono {B : Nat} {H : Heap} {x : X} {l : List (Str × X)} {cells : List AV} {b b' : Nat} (h : Chain B H x l cells b) (hb : b ≤ b') (hl : l = []) : Chain B H x l cells b' := by
  cases h with
  | nil h => exact .nil (by omega)
  | cons _ _ _ => cases hl

theorem mapHM_append {f : AV → Heap → Option (AV × Heap)} : ∀ {xs ys : List AV} {H H1 H2 : Heap} {us vs : List AV}, mapHM f xs H = some (us, H1) → mapHM f ys H1 = some (vs, H2) → mapHM f (xs ++ ys) H = some (us ++ vs, H2)
  | [], ys, H, H1, H2, us, vs, h, k => by
    simp only [mapHM_nil, Option.some.injEq, Prod.mk.injEq] at h
    obtain ⟨rfl, rfl⟩ := h
    exact k
  | x :: xs, ys, H, H1, H2, us, vs, h, k => by
    simp only [mapHM_cons, Option.bind_eq_some_iff, Option.map_eq_some_iff, Prod.mk.injEq] at h
    obtain ⟨⟨y, G⟩, hy, ⟨zs, G2⟩, hz, rfl, rfl⟩ := h
    simp only [List.cons_append, mapHM_cons, hy, Option.bind_some, mapHM_append hz k, Option.map_some]

/-- it is told as content -/
theorem Chain.shut {B : Nat} {x : X} : ∀ {l : List (Str × X)} {H : Heap} {cells : List AV} {b : Nat}, Chain B H x l cells b → ∀ d, l.length ≤ d → HLow H →
    ∃ H', mapHM (shutC d) cells H = some ((bindAll l x).cells, H') ∧ (∀ j, (j < B ∨ b ≤ j) → H'.t.get j = H.t.get j) ∧ H'.n = H.n ∧ HLow H'
  | [], H, cells, b, h, d, hd, low => by
    cases h with
    | nil h => exact ⟨H, x.still.map d H, fun _ _ => rfl, rfl, low⟩
  | (s, y) :: l, H, cells, b, h, d, hd, low => by
    cases h with
    | @cons _ _ _ cells b r c hb g =>
      have hbl := c.le
      obtain ⟨d, rfl⟩ : ∃ d', d = d' + 1 := ⟨d - 1, by simp only [List.length_cons] at hd; omega⟩
      have hr : r < H.n := low _ _ g
      have low1 : HLow (H.put r (.row (y.cells ++ cells) 4 true (some 28))) := low.put hr
      have c1 : Chain B (H.put r (.row (y.cells ++ cells) 4 true (some 28))) x l cells b := c.keep fun j h1 h2 => by rw [h_gput, if_neg (by omega)]
      obtain ⟨H', e1, e2, e3, e4⟩ := Chain.shut c1 d (by simp only [List.length_cons] at hd; omega) low1
      have hlen : (y.cells ++ cells).length = 2 * 4 := by rw [List.length_append, X.cells_len, c.len]
      have ht : (y.cells ++ cells).take (2 * 4) = y.cells ++ cells := by rw [← hlen, List.take_length]
      refine ⟨H', ?_, fun j hj => ?_, by rw [e3]; simp [h_nput], e4⟩
      · have hs : shutC (d + 1) (.slice (.new r) 0 2 (.gro 4)) H = some (vXs [y, bindAll l x], H') := by
          simp only [shutC, g, shutRow, List.drop_zero, Cap.es]
          rw [ht, if_pos ⟨hlen, .inr (by decide)⟩, mapHM_append (y.still.map d _) e1]
          rw [vXs_two]
          rfl
        have hb2 : bindAll ((s, y) :: l) x = bindX s y (bindAll l x) := rfl
        rw [hb2, bindX, X.cells_mk, vStrs_one]
        simp only [mapHM_cons, mapHM_nil, shutC_int, shutC_str, shutC_lstF, hs, Option.bind_some, Option.map_some, L_succ, vStrs_nil]
      · rw [e2 j (by omega), h_gput, if_neg (by omega)]

end Go.Lite

/-
  The program's norm.
-/
namespace Go.Lite
open Go Go.Proofs
set_option maxRecDepth 100000
set_option linter.unusedSimpArgs false
set_option linter.unusedVariables false

def letCells (p : Str × X) : List AV := [.int .i64 9, .str [], .lst 1 1 true [.str p.1], .lst 4 1 true p.2.cells]
theorem letCells_len (p : Str × X) : (letCells p).length = 4 := rfl
theorem letCells_flat (p : Str × X) : (letCells p).all AV.flat = true := rfl

theorem shutC_ptr {d k o : Nat} {H : Heap} : shutC d (.ptr (.new k) o) H = none := by cases d <;> rfl

theorem own49 : Ev fun n => ∀ xs H, callN P3 n 49 xs H = ownClone 1 16 xs H := (Ev.ge 1).mono fun n hn xs H => by
  obtain ⟨n, rfl⟩ : ∃ m, n = m + 1 := ⟨n - 1, by omega⟩
  rfl
theorem own51 : Ev fun n => ∀ xs H, callN P3 n 51 xs H = ownClone 4 72 xs H := (Ev.ge 1).mono fun n hn xs H => by
  obtain ⟨n, rfl⟩ : ∃ m, n = m + 1 := ⟨n - 1, by omega⟩
  rfl

def NormOk (x : X) : Prop := ∀ c : Nat, (x.nrm c).2 < 100 → Ev fun n => ∀ (H : Heap) (k0 : Nat) (ty : Option Nat), HLow H → H.t.get k0 = some (.row [.int .i64 c] 0 false ty) →
  Gives (call1 P3 n 38 [.agg [.ptr (.new k0) 0], x.v] H) fun v H' => v = (x.nrm c).1.v ∧ H'.t.get k0 = some (.row [.int .i64 (x.nrm c).2] 0 false ty) ∧ HKeep (only k0) H H'

set_option maxHeartbeats 4000000 in
theorem norm38 : ∀ x : X, x.fit → NormOk x := X.indA fun k t ns l ih hf c hc => by
  obtain ⟨f1, f2, f3⟩ := hf
  have f3 := (X.fits_iff l).1 f3
  rw [X.nrm] at hc ⊢
  simp only [] at hc ⊢
  have hll := X.len_le_sizes l
  have ihe : Ev fun n => ∀ x ∈ l, ∀ b ∈ List.range 100, (x.nrm b).2 < 100 → ∀ (H : Heap) (k0 : Nat) (ty : Option Nat), HLow H → H.t.get k0 = some (.row [.int .i64 b] 0 false ty) →
      Gives (call1 P3 n 38 [.agg [.ptr (.new k0) 0], x.v] H) fun v H' => v = (x.nrm b).1.v ∧ H'.t.get k0 = some (.row [.int .i64 (x.nrm b).2] 0 false ty) ∧ HKeep (only k0) H H' := by
    refine Ev.all l fun x hx => Ev.all _ fun b hb => ?_
    by_cases h : (x.nrm b).2 < 100
    · exact (ih x hx (f3 x hx) b h).mono fun n hn _ => hn
    · exact Ev.of fun n h' => absurd h' h
  have nme : Ev fun n => ∀ b ∈ List.range 100, b + 1 < 100 → ∀ (H : Heap) (k0 : Nat) (ty : Option Nat), HLow H → H.t.get k0 = some (.row [.int .i64 b] 0 false ty) →
      Gives (call1 P3 n 50 [.ptr (.new k0) 0] H) fun v H' => v = .str (pct (b + 1)) ∧ H'.t.get k0 = some (.row [.int .i64 (b + 1 : Nat)] 0 false ty) ∧ HKeep (only k0) H H' := by
    refine Ev.all _ fun b hb => ?_
    by_cases h : b + 1 < 100
    · exact (name50 b h).mono fun n hn _ => hn
    · exact Ev.of fun n h' => absurd h' h
  have ate : Ev fun n => ∀ x ∈ l, ∀ b ∈ List.range 100, ∀ H, callN P3 n 33 [(x.nrm b).1.v] H = some (.ret (.bool (x.nrm b).1.atom), H) := Ev.all l fun x _ => Ev.all _ fun b _ => atom33 _
  refine Ev.succ ((ihe.and (nme.and (ate.and ((first34 k t ns l).and (own49.and (own51.and (Ev.ge (l.length + 3)))))))).mono fun n hn H k0 ty low g0 => ?_)
  obtain ⟨ihn, nmn, atn, e34, e49, e51, hge⟩ := hn
  rw [call1_code (P := P3) (sf := c38) (code38 _ _) rfl]
  refine gives_settled ?_
  have hk0 := low.lt g0
  have n0 : ¬ k0 = H.n := by omega
  have n1 : ¬ k0 = H.n + 1 := by omega
  have n2 : ¬ k0 = H.n + 2 := by omega
  rw [X.v_mk] at e34
  have e49' : ∀ H, ownClone 1 16 [vStrs ns] H = some (.ret (vStrs ns), H) := fun H => ownClone_list (f := true) str1_len str1_still str1_flat (by omega) (by omega)
  generalize (must k t).getD l.length = m at *
  simp -implicitDefEqProofs only [c38, ↓v_lenS, SB, POp.val, AOp.val, WOp.val, Lite.bin, intBin, strBin, eqv, eqMany, eq1, AV.asBool, AV.asInt, AV.asNat, AV.asPtr, AV.asStr, resVals, ResV.val, oneOr, wants, skipped, fillAt, putAt, capOf, optNat, bnd, Nat.reduceBEq, reduceIte, Nat.reduceAdd, Nat.reduceLeDiff, Nat.reduceEqDiff, Nat.reduceSub, Nat.reduceMul, Nat.reduceDiv, SOper.again, same, sameBlk, sameCap, Nat.reduceBneDiff, s_draw2, s_pair, k_pair, asunder, SOper.into, Bool.not_false, Bool.not_true, CL, XS, g0, n0, n1, n2, e49, e49', e34]
  have hsz := nrms_lets_len l m 0 c
  refine loop_rounds l.length (fun i fr H2 => ∃ v u, Acc H.n H2 28 4 i ((X.nrms (l.take i) m 0 c).1.flatMap X.cells) v ∧ Acc H.n H2 28 4 (X.nrms (l.take i) m 0 c).2.1.length ((X.nrms (l.take i) m 0 c).2.1.flatMap letCells) u ∧ Apart v u ∧
    HLow H2 ∧ HKeep (only k0) H H2 ∧ H.n + 2 < H2.n ∧ H2.t.get k0 = some (.row [.int .i64 (X.nrms (l.take i) m 0 c).2.2] 0 false ty) ∧
    fr 2 = .ptr (.new H.n) 0 ∧ fr 3 = .ptr (.new (H.n + 1)) 0 ∧ fr 4 = .ptr (.new (H.n + 2)) 0 ∧ fr 5 = .int .i64 m ∧ fr 6 = v ∧ fr 7 = u ∧ fr 19 = vXs l ∧ fr 20 = .int .i64 l.length ∧ fr 21 = .int .i64 i ∧
    H2.t.get H.n = some (.row [.ptr (.new k0) 0] 0 false (some 61)) ∧ H2.t.get (H.n + 1) = some (.row [.int .i64 k, .str t, vStrs ns, vXs l] 0 false (some 28)) ∧ H2.t.get (H.n + 2) = some (.row [.int .i64 0, .str [], .nils, .nils] 0 false (some 28))) ?_ ?_ n 0 _ _ (by omega) (by omega) ?_
  · rintro i fr H2 K' hi ⟨v, u, accv, accu, hap, low2, kp, hn2, gk, r2, r3, r4, r5, r6, r7, r19, r20, r21, gb0, gb1, gb2⟩ hKe hKr hK
    obtain ⟨x, hx⟩ : ∃ x, l[i]? = some x := ⟨l[i], List.getElem?_eq_getElem hi⟩
    have hlt : (i : Int) < (l.length : Int) := by omega
    have hw := wrap_succ hi (by omega)
    have hnt := nrms_take hx m c
    have hle1 := nrms_take_le l m (i + 1) c
    have hll2 := (nrms_lets_len (l.take i) m 0 c).1
    rw [List.length_take] at hll2
    rw [hnt] at hle1
    generalize X.nrms (l.take i) m 0 c = S at *
    obtain ⟨ps, ls, b⟩ := S
    simp only [] at hnt hle1 gk accv accu hll2
    have hbx : (x.nrm b).2 < 100 := by
      split at hle1 <;> simp only [] at hle1 <;> omega
    have hb : b < 100 := by have := nrm_le x b; omega
    have ey := atn x (List.mem_of_getElem? hx) b (List.mem_range.2 hb)
    have lowc : HLow ((H2.push (.row [.int .i64 0, .str [], .nils, .nils] 0 false (some 28))).put H2.n (.row x.cells 0 false (some 28))) := low2.push.put (by simp [h_n])
    have hk2 := low2.lt gk
    have gkc : ((H2.push (.row [.int .i64 0, .str [], .nils, .nils] 0 false (some 28))).put H2.n (.row x.cells 0 false (some 28))).t.get k0 = some (.row [.int .i64 b] 0 false ty) := by
      rw [h_gput, if_neg (by omega), h_get, if_neg (by omega)]; exact gk
    have e1 := ihn x (List.mem_of_getElem? hx) b (List.mem_range.2 hb) hbx _ k0 ty lowc gkc
    have hxl := List.getElem?_eq_some_iff.1 hx
    generalize x.nrm b = R at *
    obtain ⟨y, b2⟩ := R
    simp only [] at e1 hnt hle1 hbx ey
    obtain ⟨kx, tx, nx, lx⟩ := x
    obtain ⟨ky, ty', ny, ly⟩ := y
    simp only [X.v_mk, X.cells_mk] at e1 ey gkc lowc
    have fv := accv.flat
    have fu := accu.flat
    have z0 : ¬ H.n = H2.n := by omega
    have z1 : ¬ H.n + 1 = H2.n := by omega
    have z2 : ¬ H.n + 2 = H2.n := by omega
    simp -implicitDefEqProofs only [c38_l0, ↓v_lenS, SB, POp.val, AOp.val, WOp.val, Lite.bin, intBin, strBin, eqv, eqMany, eq1, AV.asBool, AV.asInt, AV.asNat, AV.asPtr, AV.asStr, resVals, ResV.val, oneOr, wants, skipped, fillAt, putAt, capOf, optNat, bnd, Nat.reduceBEq, reduceIte, Nat.reduceAdd, Nat.reduceLeDiff, Nat.reduceEqDiff, Nat.reduceSub, Nat.reduceMul, Nat.reduceDiv, SOper.again, same, sameBlk, sameCap, Nat.reduceBneDiff, s_draw2, s_pair, k_pair, asunder, SOper.into, Bool.not_false, Bool.not_true, CL, XS, r2, r3, r4, r5, r6, r7, r19, r20, r21, gb0, gb1, gb2, z0, z1, z2, hlt, iaddr_vXs hx, shutC_ptr]
    refine gives_call e1 ?_
    rintro w H5 ⟨rfl, gk5, kp5⟩
    have low5 := kp5.low lowc
    have n9 : ¬ H2.n = k0 := by omega
    have g9 : H5.t.get H2.n = some (.row [.int .i64 kx, .str tx, vStrs nx, vXs lx] 0 false (some 28)) := kp5.get _ _ (by rw [h_gput, if_pos rfl]) (only_row n9)
    have hn5 := low5.lt g9
    have car5 : ∀ j cs tt, j < H2.n → j ≠ k0 → H2.t.get j = some (.row cs 0 false tt) → (H5.put H2.n (.row [.int .i64 ky, .str ty', vStrs ny, vXs ly] 0 false (some 28))).t.get j = some (.row cs 0 false tt) := fun j cs tt hj hne hg => by
      rw [h_gput, if_neg (by omega)]
      exact kp5.get _ _ (by rw [h_gput, if_neg (by omega), h_get, if_neg (by omega)]; exact hg) (only_row hne)
    have low6 : HLow (H5.put H2.n (.row [.int .i64 ky, .str ty', vStrs ny, vXs ly] 0 false (some 28))) := low5.put hn5
    have gk6 : (H5.put H2.n (.row [.int .i64 ky, .str ty', vStrs ny, vXs ly] 0 false (some 28))).t.get k0 = some (.row [.int .i64 b2] 0 false ty) := by rw [h_gput, if_neg (by omega)]; exact gk5
    have g96 : (H5.put H2.n (.row [.int .i64 ky, .str ty', vStrs ny, vXs ly] 0 false (some 28))).t.get H2.n = some (.row [.int .i64 ky, .str ty', vStrs ny, vXs ly] 0 false (some 28)) := by rw [h_gput, if_pos rfl]
    have accv6 := (((accv.push low2 (ob := .row [.int .i64 0, .str [], .nils, .nils] 0 false (some 28))).put (by decide) (k := H2.n) (by rw [h_get, if_pos rfl]) (ob := .row [.int .i64 kx, .str tx, vStrs nx, vXs lx] 0 false (some 28))).kept kp5 fun j hj _ => only_row (by omega)).put (by decide) g9 (ob := .row [.int .i64 ky, .str ty', vStrs ny, vXs ly] 0 false (some 28))
    have accu6 := (((accu.push low2 (ob := .row [.int .i64 0, .str [], .nils, .nils] 0 false (some 28))).put (by decide) (k := H2.n) (by rw [h_get, if_pos rfl]) (ob := .row [.int .i64 kx, .str tx, vStrs nx, vXs lx] 0 false (some 28))).kept kp5 fun j hj _ => only_row (by omega)).put (by decide) g9 (ob := .row [.int .i64 ky, .str ty', vStrs ny, vXs ly] 0 false (some 28))
    have kp6 : HKeep (only k0) H (H5.put H2.n (.row [.int .i64 ky, .str ty', vStrs ny, vXs ly] 0 false (some 28))) := ((((kp.pushed low).own low (by omega) (by simp [h_n])).trans kp5).own low (by omega) hn5)
    have hg0 := car5 _ _ _ (by omega) (Ne.symm n0) gb0
    have hg1 := car5 _ _ _ (by omega) (Ne.symm n1) gb1
    have hg2 := car5 _ _ _ (by omega) (Ne.symm n2) gb2
    have hn6 : H2.n < (H5.put H2.n (.row [.int .i64 ky, .str ty', vStrs ny, vXs ly] 0 false (some 28))).n := by rw [h_nput]; exact hn5
    simp -implicitDefEqProofs only [↓v_lenS, SB, POp.val, AOp.val, WOp.val, Lite.bin, intBin, strBin, eqv, eqMany, eq1, AV.asBool, AV.asInt, AV.asNat, AV.asPtr, AV.asStr, resVals, ResV.val, oneOr, wants, skipped, fillAt, putAt, capOf, optNat, bnd, Nat.reduceBEq, reduceIte, Nat.reduceAdd, Nat.reduceLeDiff, Nat.reduceEqDiff, Nat.reduceSub, Nat.reduceMul, Nat.reduceDiv, SOper.again, same, sameBlk, sameCap, Nat.reduceBneDiff, s_draw2, s_pair, k_pair, asunder, SOper.into, Bool.not_false, Bool.not_true, CL, XS, r2, r3, r4, r5, r6, r7, r19, r20, r21, g9]
    generalize H5.put H2.n (.row [.int .i64 ky, .str ty', vStrs ny, vXs ly] 0 false (some 28)) = H6 at *
    by_cases hcase : m ≤ i ∧ (X.mk ky ty' ny ly).atom = false
    · rw [if_pos hcase] at hnt hle1
      simp only [] at hle1
      obtain ⟨hmi, hat⟩ := hcase
      rw [hat] at ey
      have hmi' : (i : Int) ≥ (m : Int) := by omega
      have e2 := nmn b2 (List.mem_range.2 (by omega)) (by omega) H6 k0 ty low6 gk6
      simp -implicitDefEqProofs only [↓v_lenS, SB, POp.val, AOp.val, WOp.val, Lite.bin, intBin, strBin, eqv, eqMany, eq1, AV.asBool, AV.asInt, AV.asNat, AV.asPtr, AV.asStr, resVals, ResV.val, oneOr, wants, skipped, fillAt, putAt, capOf, optNat, bnd, Nat.reduceBEq, reduceIte, Nat.reduceAdd, Nat.reduceLeDiff, Nat.reduceEqDiff, Nat.reduceSub, Nat.reduceMul, Nat.reduceDiv, SOper.again, same, sameBlk, sameCap, Nat.reduceBneDiff, s_draw2, s_pair, k_pair, asunder, SOper.into, Bool.not_false, Bool.not_true, CL, XS, r2, r3, r4, r5, r6, r7, r19, r20, r21, hmi', g96, ey, hg0]
      refine gives_call e2 ?_
      rintro w H7 ⟨rfl, gk7, kp7⟩
      have low7 := kp7.low low6
      have g97 := kp7.get _ _ g96 (only_row n9)
      have accv7 := accv6.kept kp7 fun j hj _ => only_row (by omega)
      have accu7 := accu6.kept kp7 fun j hj _ => only_row (by omega)
      have kp7' := kp6.trans kp7
      have car7 : ∀ j cs tt, j < H2.n → j ≠ k0 → H2.t.get j = some (.row cs 0 false tt) → H7.t.get j = some (.row cs 0 false tt) := fun j cs tt hj hne hg => kp7.get _ _ (car5 j cs tt hj hne hg) (only_row hne)
      have hn7 : H2.n < H7.n := low7.lt g97
      have l8a := low7.push (ob := .row [.str (pct (b2 + 1))] 0 true none)
      have l8b := l8a.push (ob := .row [.int .i64 ky, .str ty', vStrs ny, vXs ly] 0 true none)
      have l8c := l8b.push (ob := .row [.int .i64 9, .str [], .lst 1 1 true [.str (pct (b2 + 1))], .lst 4 1 true [.int .i64 ky, .str ty', vStrs ny, vXs ly]] 0 false none)
      have accu8 := ((accu7.push low7 (ob := .row [.str (pct (b2 + 1))] 0 true none)).push l8a (ob := .row [.int .i64 ky, .str ty', vStrs ny, vXs ly] 0 true none)).push l8b (ob := .row [.int .i64 9, .str [], .lst 1 1 true [.str (pct (b2 + 1))], .lst 4 1 true [.int .i64 ky, .str ty', vStrs ny, vXs ly]] 0 false none)
      have accv8 := ((accv7.push low7 (ob := .row [.str (pct (b2 + 1))] 0 true none)).push l8a (ob := .row [.int .i64 ky, .str ty', vStrs ny, vXs ly] 0 true none)).push l8b (ob := .row [.int .i64 9, .str [], .lst 1 1 true [.str (pct (b2 + 1))], .lst 4 1 true [.int .i64 ky, .str ty', vStrs ny, vXs ly]] 0 false none)
      obtain ⟨H9, happ, accu9, kp9, low9, hn9⟩ := accu8.one_more (e := 28) (bs := 72) (ys := [.int .i64 9, .str [], .lst 1 1 true [.str (pct (b2 + 1))], .lst 4 1 true [.int .i64 ky, .str ty', vStrs ny, vXs ly]]) (by simp only [h_n]; omega) l8c (by decide) rfl rfl (by omega)
      have accv9 := accu8.beside accv8 hap.symm kp9
      have kp8' := ((kp7'.pushed low (ob := .row [.str (pct (b2 + 1))] 0 true none)).pushed low (ob := .row [.int .i64 ky, .str ty', vStrs ny, vXs ly] 0 true none)).pushed low (ob := .row [.int .i64 9, .str [], .lst 1 1 true [.str (pct (b2 + 1))], .lst 4 1 true [.int .i64 ky, .str ty', vStrs ny, vXs ly]] 0 false none)
      have kp9' := accu8.keeps kp8' low kp9
      have car9 : ∀ j cs tt, j < H7.n → H7.t.get j = some (.row cs 0 false tt) → H9.t.get j = some (.row cs 0 false tt) := fun j cs tt hj hg =>
        accu8.row (by decide) kp9 (by rw [h_get, if_neg (by simp only [h_n]; omega), h_get, if_neg (by simp only [h_n]; omega), h_get, if_neg (by omega)]; exact hg)
      have g99 := car9 _ _ _ hn7 g97
      have gk9 := car9 _ _ _ (low7.lt gk7) gk7
      simp only [h_n] at happ accu9 hn9
      have hn9' : H2.n < H9.n := by omega
      have lowA := low9.put hn9' (ob := .row [.int .i64 5, .str (pct (b2 + 1)), .nils, .nils] 0 false (some 28))
      have accvA := accv9.put (by decide) g99 (ob := .row [.int .i64 5, .str (pct (b2 + 1)), .nils, .nils] 0 false (some 28))
      have accuA := accu9.put (by decide) g99 (ob := .row [.int .i64 5, .str (pct (b2 + 1)), .nils, .nils] 0 false (some 28))
      have kpA := kp9'.own low (j := H2.n) (by omega) hn9' (ob := .row [.int .i64 5, .str (pct (b2 + 1)), .nils, .nils] 0 false (some 28))
      have lowB := lowA.push (ob := .row [.int .i64 5, .str (pct (b2 + 1)), .lst 0 0 true [], .lst 0 0 true []] 0 true none)
      have accvB := accvA.push lowA (ob := .row [.int .i64 5, .str (pct (b2 + 1)), .lst 0 0 true [], .lst 0 0 true []] 0 true none)
      have accuB := accuA.push lowA (ob := .row [.int .i64 5, .str (pct (b2 + 1)), .lst 0 0 true [], .lst 0 0 true []] 0 true none)
      obtain ⟨HC, happ2, accvC, kpC, lowC, hnC⟩ := accvB.one_more (e := 28) (bs := 72) (ys := [.int .i64 5, .str (pct (b2 + 1)), .lst 0 0 true [], .lst 0 0 true []]) (by simp only [h_n, h_nput]; omega) lowB (by decide) rfl rfl (by omega)
      have hapv : Apart v (.slice (.new (H7.n + 1 + 1 + 1)) 0 (ls.length + 1) (.gro 4)) := (accv7.fresh low7 (by omega)).symm
      have accuC := accvB.beside accuB hapv kpC
      have hapC := accuB.fresh lowB (k := H9.n + 1) (o := 0) (m := i + 1) (c := .gro 4) (by simp only [h_n, h_nput]; omega)
      have kpC' := accvB.keeps (kpA.pushed low (ob := .row [.int .i64 5, .str (pct (b2 + 1)), .lst 0 0 true [], .lst 0 0 true []] 0 true none)) low kpC
      have carC : ∀ j cs tt, j < H2.n → H9.t.get j = some (.row cs 0 false tt) → HC.t.get j = some (.row cs 0 false tt) := fun j cs tt hj hg =>
        accvB.row (by decide) kpC (by rw [h_get, if_neg (by simp only [h_nput]; omega), h_gput, if_neg (by omega)]; exact hg)
      simp only [h_n, h_nput] at happ2 accvC hnC
      have done : ∀ fr', fr' 2 = .ptr (.new H.n) 0 → fr' 3 = .ptr (.new (H.n + 1)) 0 → fr' 4 = .ptr (.new (H.n + 2)) 0 → fr' 5 = .int .i64 m → fr' 6 = .slice (.new (H9.n + 1)) 0 (i + 1) (.gro 4) → fr' 7 = .slice (.new (H7.n + 1 + 1 + 1)) 0 (ls.length + 1) (.gro 4) → fr' 19 = vXs l → fr' 20 = .int .i64 l.length → fr' 21 = .int .i64 (i + 1 : Nat) →
          Gives (K' .normal fr' HC) fun v0 H' => ∃ v H'', shutV v0 H' = some (v, H'') ∧ v = (bindAll (X.nrms l m 0 c).snd.fst (X.mk k t ns (X.nrms l m 0 c).fst)).v ∧ H''.t.get k0 = some (Obj.row [AV.int IntKind.i64 (X.nrms l m 0 c).snd.snd] 0 false ty) ∧ HKeep (only k0) H H'' := fun fr' q2 q3 q4 q5 q6 q7 q19 q20 q21 => by
        refine hK _ _ ⟨_, _, ?_, ?_, hapC, lowC, kpC', by omega, ?_, q2, q3, q4, q5, q6, q7, q19, q20, q21, carC _ _ _ (by omega) (car9 _ _ _ (by omega) (car7 _ _ _ (by omega) (Ne.symm n0) gb0)), carC _ _ _ (by omega) (car9 _ _ _ (by omega) (car7 _ _ _ (by omega) (Ne.symm n1) gb1)), carC _ _ _ (by omega) (car9 _ _ _ (by omega) (car7 _ _ _ (by omega) (Ne.symm n2) gb2))⟩
        · rw [hnt, flat_snoc, varX, X.cells_mk, vStrs_nil, vXs_nil]; exact accvC
        · rw [hnt, flat_snoc, letCells, X.cells_mk, List.length_append]; exact accuC
        · rw [hnt]; exact carC _ _ _ hk2 gk9
      have z7 : ¬ H2.n = H7.n := by omega
      have z7b : ¬ H2.n = H7.n + 1 := by omega
      simp -implicitDefEqProofs only [↓v_lenS, SB, POp.val, AOp.val, WOp.val, Lite.bin, intBin, strBin, eqv, eqMany, eq1, AV.asBool, AV.asInt, AV.asNat, AV.asPtr, AV.asStr, resVals, ResV.val, oneOr, wants, skipped, fillAt, putAt, capOf, optNat, bnd, Nat.reduceBEq, reduceIte, Nat.reduceAdd, Nat.reduceLeDiff, Nat.reduceEqDiff, Nat.reduceSub, Nat.reduceMul, Nat.reduceDiv, SOper.again, same, sameBlk, sameCap, Nat.reduceBneDiff, s_draw2, s_pair, k_pair, asunder, SOper.into, Bool.not_false, Bool.not_true, CL, XS, r2, r3, r4, r5, r6, r7, r19, r20, r21, g97, g99, z7, z7b, k_taken, happ, happ2, hw]
      refine done _ ?_ ?_ ?_ ?_ ?_ ?_ ?_ ?_ ?_ <;> simp -implicitDefEqProofs only [↓v_lenS, SB, POp.val, AOp.val, WOp.val, Lite.bin, intBin, strBin, eqv, eqMany, eq1, AV.asBool, AV.asInt, AV.asNat, AV.asPtr, AV.asStr, resVals, ResV.val, oneOr, wants, skipped, fillAt, putAt, capOf, optNat, bnd, Nat.reduceBEq, reduceIte, Nat.reduceAdd, Nat.reduceLeDiff, Nat.reduceEqDiff, Nat.reduceSub, Nat.reduceMul, Nat.reduceDiv, SOper.again, same, sameBlk, sameCap, Nat.reduceBneDiff, s_draw2, s_pair, k_pair, asunder, SOper.into, Bool.not_false, Bool.not_true, r2, r3, r4, r5, r6, r7, r19, r20, r21]
    · rw [if_neg hcase] at hnt hle1
      have low7 := low6.push (ob := .row [.int .i64 ky, .str ty', vStrs ny, vXs ly] 0 true none)
      obtain ⟨H8, happ, accv8, kp8, low8, hn8⟩ := (accv6.push low6 (ob := .row [.int .i64 ky, .str ty', vStrs ny, vXs ly] 0 true none)).one_more (e := 28) (bs := 72) (ys := [.int .i64 ky, .str ty', vStrs ny, vXs ly]) (by rw [h_n]; omega) low7 (by decide) rfl four_flat (by omega)
      have accu8 := (accv6.push low6 (ob := .row [.int .i64 ky, .str ty', vStrs ny, vXs ly] 0 true none)).beside (accu6.push low6 (ob := .row [.int .i64 ky, .str ty', vStrs ny, vXs ly] 0 true none)) hap kp8
      have hap8 := accu6.fresh low6 (k := H6.n + 1) (o := 0) (m := i + 1) (c := .gro 4) (by omega)
      have car8 : ∀ j cs tt, j < H2.n → j ≠ k0 → H2.t.get j = some (.row cs 0 false tt) → H8.t.get j = some (.row cs 0 false tt) := fun j cs tt hj hne hg =>
        (accv6.push low6 (ob := .row [.int .i64 ky, .str ty', vStrs ny, vXs ly] 0 true none)).row (by decide) kp8 (by rw [h_get, if_neg (by omega)]; exact car5 j cs tt hj hne hg)
      have gk8 := (accv6.push low6 (ob := .row [.int .i64 ky, .str ty', vStrs ny, vXs ly] 0 true none)).row (by decide) kp8 (j := k0) (by rw [h_get, if_neg (by omega)]; exact gk6)
      have kpf : HKeep (only k0) H H8 := (accv6.push low6 (ob := .row [.int .i64 ky, .str ty', vStrs ny, vXs ly] 0 true none)).keeps (kp6.pushed low) low kp8
      rw [h_n] at happ accv8 hn8
      have fin : Apart (.slice (.new (H6.n + 1)) 0 (i + 1) (.gro 4)) u ∧ True := ⟨hap8, trivial⟩
      have done : ∀ fr', fr' 2 = .ptr (.new H.n) 0 → fr' 3 = .ptr (.new (H.n + 1)) 0 → fr' 4 = .ptr (.new (H.n + 2)) 0 → fr' 5 = .int .i64 m → fr' 6 = .slice (.new (H6.n + 1)) 0 (i + 1) (.gro 4) → fr' 7 = u → fr' 19 = vXs l → fr' 20 = .int .i64 l.length → fr' 21 = .int .i64 (i + 1 : Nat) →
          Gives (K' .normal fr' H8) fun v0 H' => ∃ v H'', shutV v0 H' = some (v, H'') ∧ v = (bindAll (X.nrms l m 0 c).snd.fst (X.mk k t ns (X.nrms l m 0 c).fst)).v ∧ H''.t.get k0 = some (Obj.row [AV.int IntKind.i64 (X.nrms l m 0 c).snd.snd] 0 false ty) ∧ HKeep (only k0) H H'' := fun fr' q2 q3 q4 q5 q6 q7 q19 q20 q21 => by
        refine hK _ _ ⟨_, u, ?_, ?_, hap8, low8, kpf, by omega, ?_, q2, q3, q4, q5, q6, q7, q19, q20, q21, car8 _ _ _ (by omega) (Ne.symm n0) gb0, car8 _ _ _ (by omega) (Ne.symm n1) gb1, car8 _ _ _ (by omega) (Ne.symm n2) gb2⟩
        · rw [hnt, flat_snoc, X.cells_mk]; exact accv8
        · rw [hnt]; exact accu8
        · rw [hnt]; exact gk8
      by_cases hmi : m ≤ i
      · have hat : (X.mk ky ty' ny ly).atom = true := by
          cases h : (X.mk ky ty' ny ly).atom with
          | true => rfl
          | false => exact absurd ⟨hmi, h⟩ hcase
        rw [hat] at ey
        have hmi' : (i : Int) ≥ (m : Int) := by omega
        simp -implicitDefEqProofs only [↓v_lenS, SB, POp.val, AOp.val, WOp.val, Lite.bin, intBin, strBin, eqv, eqMany, eq1, AV.asBool, AV.asInt, AV.asNat, AV.asPtr, AV.asStr, resVals, ResV.val, oneOr, wants, skipped, fillAt, putAt, capOf, optNat, bnd, Nat.reduceBEq, reduceIte, Nat.reduceAdd, Nat.reduceLeDiff, Nat.reduceEqDiff, Nat.reduceSub, Nat.reduceMul, Nat.reduceDiv, SOper.again, same, sameBlk, sameCap, Nat.reduceBneDiff, s_draw2, s_pair, k_pair, asunder, SOper.into, Bool.not_false, Bool.not_true, CL, XS, r2, r3, r4, r5, r6, r7, r19, r20, r21, hmi', g96, ey, k_taken, happ, hw]
        refine done _ ?_ ?_ ?_ ?_ ?_ ?_ ?_ ?_ ?_ <;> simp -implicitDefEqProofs only [↓v_lenS, SB, POp.val, AOp.val, WOp.val, Lite.bin, intBin, strBin, eqv, eqMany, eq1, AV.asBool, AV.asInt, AV.asNat, AV.asPtr, AV.asStr, resVals, ResV.val, oneOr, wants, skipped, fillAt, putAt, capOf, optNat, bnd, Nat.reduceBEq, reduceIte, Nat.reduceAdd, Nat.reduceLeDiff, Nat.reduceEqDiff, Nat.reduceSub, Nat.reduceMul, Nat.reduceDiv, SOper.again, same, sameBlk, sameCap, Nat.reduceBneDiff, s_draw2, s_pair, k_pair, asunder, SOper.into, Bool.not_false, Bool.not_true, r2, r3, r4, r5, r6, r7, r19, r20, r21]
      · have hmi' : ¬ (i : Int) ≥ (m : Int) := by omega
        simp -implicitDefEqProofs only [↓v_lenS, SB, POp.val, AOp.val, WOp.val, Lite.bin, intBin, strBin, eqv, eqMany, eq1, AV.asBool, AV.asInt, AV.asNat, AV.asPtr, AV.asStr, resVals, ResV.val, oneOr, wants, skipped, fillAt, putAt, capOf, optNat, bnd, Nat.reduceBEq, reduceIte, Nat.reduceAdd, Nat.reduceLeDiff, Nat.reduceEqDiff, Nat.reduceSub, Nat.reduceMul, Nat.reduceDiv, SOper.again, same, sameBlk, sameCap, Nat.reduceBneDiff, s_draw2, s_pair, k_pair, asunder, SOper.into, Bool.not_false, Bool.not_true, CL, XS, r2, r3, r4, r5, r6, r7, r19, r20, r21, hmi', g96, k_taken, happ, hw]
        refine done _ ?_ ?_ ?_ ?_ ?_ ?_ ?_ ?_ ?_ <;> simp -implicitDefEqProofs only [↓v_lenS, SB, POp.val, AOp.val, WOp.val, Lite.bin, intBin, strBin, eqv, eqMany, eq1, AV.asBool, AV.asInt, AV.asNat, AV.asPtr, AV.asStr, resVals, ResV.val, oneOr, wants, skipped, fillAt, putAt, capOf, optNat, bnd, Nat.reduceBEq, reduceIte, Nat.reduceAdd, Nat.reduceLeDiff, Nat.reduceEqDiff, Nat.reduceSub, Nat.reduceMul, Nat.reduceDiv, SOper.again, same, sameBlk, sameCap, Nat.reduceBneDiff, s_draw2, s_pair, k_pair, asunder, SOper.into, Bool.not_false, Bool.not_true, r2, r3, r4, r5, r6, r7, r19, r20, r21]
  · rintro fr H2 K' ⟨v, u, accv, accu, hap, low2, kp, hn2, gk, r2, r3, r4, r5, r6, r7, r19, r20, r21, gb0, gb1, gb2⟩ hKe hKr
    rw [List.take_length] at accv accu gk
    have hpl := nrms_len l m 0 c
    have hsl := nrms_lets_len l m 0 c
    generalize X.nrms l m 0 c = S at *
    obtain ⟨ps, ls, b⟩ := S
    simp only [] at accv accu gk hpl hsl hc ⊢
    rw [← hpl] at accv
    obtain ⟨H3, hcl, kp3⟩ := ownClone_acc (bytes := 72) (by decide) X.cells_len X.still X.flat (by omega) (by omega) accv
    have accu3 := accv.beside accu hap kp3
    have low3 := kp3.low low2
    have kp3' := accv.keeps kp low kp3
    have gk3 := accv.row (by decide) kp3 gk
    have gc1 := accv.row (by decide) kp3 gb1
    have gc2 := accv.row (by decide) kp3 gb2
    have hn3 := low3.lt gc2
    have hcl' : ownClone 4 72 [v] H2 = some (.ret (vXs ps), H3) := hcl
    have lu := accu3.len
    have hw1 : IntKind.i64.wrap ((ls.length : Int) - 1) = ((ls.length - 0 : Nat) : Int) - 1 := by rw [wrap64 (by omega) (by omega)]; rfl
    have low4 := low3.put (low3.lt gc1) (ob := .row [.int .i64 k, .str t, vStrs ns, vXs ps] 0 false (some 28))
    have accu4 := accu3.put (by decide) gc1 (ob := .row [.int .i64 k, .str t, vStrs ns, vXs ps] 0 false (some 28))
    have kp4 := kp3'.own low (j := H.n + 1) (by omega) (low3.lt gc1) (ob := .row [.int .i64 k, .str t, vStrs ns, vXs ps] 0 false (some 28))
    have y0 : ¬ k0 = H.n + 1 := n1
    have y1 : ¬ H.n + 2 = H.n + 1 := by omega
    simp -implicitDefEqProofs only [c38_l0, ↓v_lenS, SB, POp.val, AOp.val, WOp.val, Lite.bin, intBin, strBin, eqv, eqMany, eq1, AV.asBool, AV.asInt, AV.asNat, AV.asPtr, AV.asStr, resVals, ResV.val, oneOr, wants, skipped, fillAt, putAt, capOf, optNat, bnd, Nat.reduceBEq, reduceIte, Nat.reduceAdd, Nat.reduceLeDiff, Nat.reduceEqDiff, Nat.reduceSub, Nat.reduceMul, Nat.reduceDiv, SOper.again, same, sameBlk, sameCap, Nat.reduceBneDiff, s_draw2, s_pair, k_pair, asunder, SOper.into, Bool.not_false, Bool.not_true, CL, XS, r2, r3, r4, r5, r6, r7, r19, r20, r21, Int.lt_irrefl, hKe, e51, hcl', gc1, lu, hw1]
    have hn4 : (H3.put (H.n + 1) (.row [.int .i64 k, .str t, vStrs ns, vXs ps] 0 false (some 28))).n = H3.n := h_nput
    have gk4 : (H3.put (H.n + 1) (.row [.int .i64 k, .str t, vStrs ns, vXs ps] 0 false (some 28))).t.get k0 = some (.row [.int .i64 b] 0 false ty) := by rw [h_gput, if_neg y0]; exact gk3
    have gd1 : (H3.put (H.n + 1) (.row [.int .i64 k, .str t, vStrs ns, vXs ps] 0 false (some 28))).t.get (H.n + 1) = some (.row [.int .i64 k, .str t, vStrs ns, vXs ps] 0 false (some 28)) := by rw [h_gput, if_pos rfl]
    have gd2 : (H3.put (H.n + 1) (.row [.int .i64 k, .str t, vStrs ns, vXs ps] 0 false (some 28))).t.get (H.n + 2) = some (.row [.int .i64 0, .str [], .nils, .nils] 0 false (some 28)) := by rw [h_gput, if_neg y1]; exact gc2
    generalize H3.put (H.n + 1) (.row [.int .i64 k, .str t, vStrs ns, vXs ps] 0 false (some 28)) = H4 at *
    have hL : ls.length ≤ 60 := by omega
    refine loop_rounds ls.length (fun r fr H5 => ∃ c0 c1 c2 c3 b2, Chain H3.n H5 (.mk k t ns ps) (ls.drop (ls.length - r)) [c0, c1, c2, c3] b2 ∧ b2 ≤ H5.n ∧ H5.t.get (H.n + 1) = some (.row [c0, c1, c2, c3] 0 false (some 28)) ∧ H5.t.get (H.n + 2) = some (.row [.int .i64 0, .str [], .nils, .nils] 0 false (some 28)) ∧
      H5.t.get k0 = some (.row [.int .i64 b] 0 false ty) ∧ HLow H5 ∧ HKeep (only k0) H H5 ∧ H3.n ≤ H5.n ∧ fr 3 = .ptr (.new (H.n + 1)) 0 ∧ fr 4 = .ptr (.new (H.n + 2)) 0 ∧ fr 11 = .int .i64 (((ls.length - r : Nat) : Int) - 1) ∧
      (ls.length ≠ 0 → ∃ ku cs, fr 7 = .slice (.new ku) 0 ls.length (.gro 4) ∧ H.n ≤ ku ∧ ku < H3.n ∧ H5.t.get ku = some (.row cs 4 false (some 28)) ∧ cs.length = ls.length * 4 ∧ cs.take ((ls.length - r) * 4) = (ls.take (ls.length - r)).flatMap letCells)) ?_ ?_ n 0 _ _ (by omega) (by omega) ?_
    · rintro r fr H5 K2 hr ⟨c0, c1, c2, c3, b2, ch, hb2, ge1, ge2, gk5, low5, kp5, hn5, q3, q4, q11, hlet⟩ hKe2 hKr2 hK2
      obtain ⟨ku, cs, q7, hku, hku3, gku, hcs, htk⟩ := hlet (by omega)
      obtain ⟨j, hj⟩ : ∃ j, ls.length - r = j + 1 := ⟨ls.length - r - 1, by omega⟩
      have hjl : j < ls.length := by omega
      have hj2 : ls.length - (r + 1) = j := by omega
      rw [hj] at ch q11 htk
      obtain ⟨p, hp⟩ : ∃ p, ls[j]? = some p := ⟨ls[j], List.getElem?_eq_getElem hjl⟩
      have hdrop : ls.drop j = p :: ls.drop (j + 1) := by
        rw [List.drop_eq_getElem_cons hjl, List.getElem?_eq_getElem hjl] at *
        simp only [Option.some.injEq] at hp
        rw [hp]
      have htake : ls.take (j + 1) = ls.take j ++ [p] := by rw [List.take_add_one, hp]; rfl
      obtain ⟨s, y⟩ := p
      rw [htake, flat_snoc] at htk
      have hA : ((ls.take j).flatMap letCells).length = j * 4 := by rw [flat_len letCells_len, List.length_take]; congr 1; omega
      have hcsp : cs = (ls.take j).flatMap letCells ++ letCells (s, y) ++ cs.drop ((j + 1) * 4) := by rw [← htk, List.take_append_drop]
      have hq11 : ((j + 1 : Nat) : Int) - 1 = (j : Int) := by omega
      rw [hq11] at q11
      have hget : cs[j * 4 + 3]? = some (.lst 4 1 true y.cells) := by
        rw [hcsp, List.getElem?_append_left (by rw [List.length_append, hA, letCells_len]; omega), List.getElem?_append_right (by omega), hA]
        rw [show j * 4 + 3 - j * 4 = 3 by omega]; rfl
      have hup : j * 4 + 3 + 1 ≤ cs.length := by rw [hcs]; omega
      have hld : ∀ S : AV, (((cs.take (j * 4 + 3) ++ [S] ++ cs.drop (j * 4 + 3 + 1)).drop (j * 4)).take 4) = [.int .i64 9, .str [], .lst 1 1 true [.str s], S] := by
        intro S
        have h1 : cs.take (j * 4 + 3) = (ls.take j).flatMap letCells ++ [.int .i64 9, .str [], .lst 1 1 true [.str s]] := by
          rw [hcsp, List.append_assoc, List.take_append, hA, show j * 4 + 3 - j * 4 = 3 by omega, List.take_of_length_le (by omega)]
          rfl
        rw [h1, List.append_assoc, List.append_assoc, List.drop_append, hA, Nat.sub_self, List.drop_of_length_le (by omega), List.nil_append, List.drop_zero]
        rfl
      have hw2 : IntKind.i64.wrap ((j : Int) - 1) = (j : Int) - 1 := by rw [wrap64 (by omega) (by omega)]
      have hne1 : Nat.beq (H5.n + 1) ku = false := by
        cases h : Nat.beq (H5.n + 1) ku with
        | false => rfl
        | true => have := Nat.eq_of_beq_eq_true h; omega
      have x1 : ¬ ku = H5.n := by omega
      have x2 : ¬ ku = H5.n + 1 := by omega
      have hn1 := low5.lt ge1
      have x3 : ¬ H.n + 1 = H5.n := by omega
      have x4 : ¬ H.n + 1 = H5.n + 1 := by omega
      have x5 : ¬ H.n + 1 = ku := fun e => by rw [← e, ge1] at gku; cases gku
      have hfl := ch.flat
      simp only [List.all_cons, List.all_nil, Bool.and_true, Bool.and_eq_true] at hfl
      obtain ⟨l0, l1, l2, l3⟩ := hfl
      obtain ⟨ky, ty', ny, ly⟩ := y
      rw [X.cells_mk] at hget
      have happ : ∀ (G : Heap) (zs : List AV), zs.all AV.flat = true → appendOf 28 4 72 G (.lst 4 1 true [.int .i64 ky, .str ty', vStrs ny, vXs ly]) (1, zs) = some (.slice (.new G.n) 0 2 (.gro 4), G.push (.row ([.int .i64 ky, .str ty', vStrs ny, vXs ly] ++ zs) 4 false (some 28))) := fun G zs hz => by
        unfold appendOf
        rw [if_neg (by simp [hz])]
        simp only []
        rw [if_neg (by omega), if_pos ⟨.inl trivial, trivial, by omega, by omega⟩]
        rfl
      have h12 : (1 : Nat) < 2 := by decide
      have happ1 : ∀ (G : Heap), appendOf 28 4 72 G (.lst 4 1 true [.int .i64 ky, .str ty', vStrs ny, vXs ly]) (1, [.int .i64 0, .str [], .lst 0 0 true [], .lst 0 0 true []]) = some (.slice (.new G.n) 0 2 (.gro 4), G.push (.row [.int .i64 ky, .str ty', vStrs ny, vXs ly, .int .i64 0, .str [], .lst 0 0 true [], .lst 0 0 true []] 4 false (some 28))) := fun G => happ G _ rfl
      simp -implicitDefEqProofs only [c38_l1, ↓v_lenS, SB, POp.val, AOp.val, WOp.val, Lite.bin, intBin, strBin, eqv, eqMany, eq1, AV.asBool, AV.asInt, AV.asNat, AV.asPtr, AV.asStr, resVals, ResV.val, oneOr, wants, skipped, fillAt, putAt, capOf, optNat, bnd, Nat.reduceBEq, reduceIte, Nat.reduceAdd, Nat.reduceLeDiff, Nat.reduceEqDiff, Nat.reduceSub, Nat.reduceMul, Nat.reduceDiv, SOper.again, same, sameBlk, sameCap, Nat.reduceBneDiff, s_draw2, s_pair, k_pair, asunder, SOper.into, Bool.not_false, Bool.not_true, CL, XS, q3, q4, q7, q11, ge1, ge2, gku, ge_iff_le, Int.natCast_nonneg, hjl, hget, happ1, hne1, x1, x2, x3, x4, x5, hup, hld, hw2, l0, l1, l2, l3, h12]
      have hrow : ∀ i, i < H5.n → i ≠ ku → i ≠ H.n + 1 → (((((H5.push (Obj.row [AV.int IntKind.i64 0, AV.str [], AV.lst 0 0 true [], AV.lst 0 0 true []] 0 true none)).push (Obj.row [AV.int IntKind.i64 ky, AV.str ty', vStrs ny, vXs ly, AV.int IntKind.i64 0, AV.str [], AV.lst 0 0 true [], AV.lst 0 0 true []] 4 false (some 28))).put (H5.n + 1)
          (Obj.row [AV.int IntKind.i64 ky, AV.str ty', vStrs ny, vXs ly, c0, c1, c2, c3] 4 false (some 28))).put ku (Obj.row (List.take (j * 4 + 3) cs ++ [AV.slice (Blk.new (H5.n + 1)) 0 2 (Cap.gro 4)] ++ List.drop (j * 4 + 3 + 1) cs) 4 false (some 28))).put (H.n + 1)
          (Obj.row [AV.int IntKind.i64 9, AV.str [], AV.lst 1 1 true [AV.str s], AV.slice (Blk.new (H5.n + 1)) 0 2 (Cap.gro 4)] 0 false (some 28))).t.get i = H5.t.get i := fun i h1 h2 h3 => by
        rw [h_gput, if_neg h3, h_gput, if_neg h2, h_gput, if_neg (by omega), h_get, if_neg (by simp only [h_n]; omega), h_get, if_neg (by omega)]
      have x6 : H.n + 2 ≠ ku := fun e => by rw [← e, ge2] at gku; cases gku
      have x7 : k0 ≠ ku := by omega
      have hnk := low5.lt gku
      refine hK2 _ _ ⟨_, _, _, _, H5.n + 1 + 1, ?_, by simp only [h_n, h_nput]; omega, by rw [h_gput, if_pos rfl], by rw [hrow _ (low5.lt ge2) x6 y1]; exact ge2, by rw [hrow _ (low5.lt gk5) x7 n1]; exact gk5,
        ((((low5.push).push).put (by simp only [h_n]; omega)).put (by simp only [h_n, h_nput]; omega)).put (by simp only [h_n, h_nput]; omega),
        ((((kp5.pushed low).pushed low).own low (by omega) (by simp only [h_n]; omega)).own low hku (by simp only [h_n, h_nput]; omega)).own low (by omega) (by simp only [h_n, h_nput]; omega),
        by simp only [h_n, h_nput]; omega, ?_, ?_, ?_, fun _ => ⟨ku, List.take (j * 4 + 3) cs ++ [AV.slice (Blk.new (H5.n + 1)) 0 2 (Cap.gro 4)] ++ List.drop (j * 4 + 3 + 1) cs, ?_, hku, hku3, by rw [h_gput, if_neg (Ne.symm x5), h_gput, if_pos rfl], ?_, ?_⟩⟩
      · rw [hj2, hdrop]
        refine .cons (ch.keep fun i h1 h2 => hrow i (by omega) (by omega) (by omega)) (by omega) ?_
        rw [h_gput, if_neg (Ne.symm x4), h_gput, if_neg (Ne.symm x2), h_gput, if_pos rfl, X.cells_mk]
        rfl
      · simp -implicitDefEqProofs only [↓v_lenS, SB, POp.val, AOp.val, WOp.val, Lite.bin, intBin, strBin, eqv, eqMany, eq1, AV.asBool, AV.asInt, AV.asNat, AV.asPtr, AV.asStr, resVals, ResV.val, oneOr, wants, skipped, fillAt, putAt, capOf, optNat, bnd, Nat.reduceBEq, reduceIte, Nat.reduceAdd, Nat.reduceLeDiff, Nat.reduceEqDiff, Nat.reduceSub, Nat.reduceMul, Nat.reduceDiv, SOper.again, same, sameBlk, sameCap, Nat.reduceBneDiff, s_draw2, s_pair, k_pair, asunder, SOper.into, Bool.not_false, Bool.not_true, q3]
      · simp -implicitDefEqProofs only [↓v_lenS, SB, POp.val, AOp.val, WOp.val, Lite.bin, intBin, strBin, eqv, eqMany, eq1, AV.asBool, AV.asInt, AV.asNat, AV.asPtr, AV.asStr, resVals, ResV.val, oneOr, wants, skipped, fillAt, putAt, capOf, optNat, bnd, Nat.reduceBEq, reduceIte, Nat.reduceAdd, Nat.reduceLeDiff, Nat.reduceEqDiff, Nat.reduceSub, Nat.reduceMul, Nat.reduceDiv, SOper.again, same, sameBlk, sameCap, Nat.reduceBneDiff, s_draw2, s_pair, k_pair, asunder, SOper.into, Bool.not_false, Bool.not_true, q4]
      · simp -implicitDefEqProofs only [↓v_lenS, SB, POp.val, AOp.val, WOp.val, Lite.bin, intBin, strBin, eqv, eqMany, eq1, AV.asBool, AV.asInt, AV.asNat, AV.asPtr, AV.asStr, resVals, ResV.val, oneOr, wants, skipped, fillAt, putAt, capOf, optNat, bnd, Nat.reduceBEq, reduceIte, Nat.reduceAdd, Nat.reduceLeDiff, Nat.reduceEqDiff, Nat.reduceSub, Nat.reduceMul, Nat.reduceDiv, SOper.again, same, sameBlk, sameCap, Nat.reduceBneDiff, s_draw2, s_pair, k_pair, asunder, SOper.into, Bool.not_false, Bool.not_true, hj2]
      · simp -implicitDefEqProofs only [↓v_lenS, SB, POp.val, AOp.val, WOp.val, Lite.bin, intBin, strBin, eqv, eqMany, eq1, AV.asBool, AV.asInt, AV.asNat, AV.asPtr, AV.asStr, resVals, ResV.val, oneOr, wants, skipped, fillAt, putAt, capOf, optNat, bnd, Nat.reduceBEq, reduceIte, Nat.reduceAdd, Nat.reduceLeDiff, Nat.reduceEqDiff, Nat.reduceSub, Nat.reduceMul, Nat.reduceDiv, SOper.again, same, sameBlk, sameCap, Nat.reduceBneDiff, s_draw2, s_pair, k_pair, asunder, SOper.into, Bool.not_false, Bool.not_true, q7]
      · simp only [List.length_append, List.length_take, List.length_drop, List.length_singleton, hcs]
        omega
      · rw [hj2, List.append_assoc, List.take_append_of_le_length (by rw [List.length_take, hcs]; omega), List.take_take, Nat.min_eq_left (by omega), hcsp, List.append_assoc, List.take_append_of_le_length (by rw [hA]; exact Nat.le_refl _), ← hA, List.take_length]
    · rintro fr H5 K2 ⟨c0, c1, c2, c3, b2, ch, hb2, ge1, ge2, gk5, low5, kp5, hn5, q3, q4, q11, hlet⟩ hKe2 hKr2
      rw [Nat.sub_self, List.drop_zero] at ch
      rw [Nat.sub_self] at q11
      have hneg : ¬ ((0 : Nat) : Int) - 1 ≥ 0 := by omega
      have hfl := ch.flat
      simp only [List.all_cons, List.all_nil, Bool.and_true, Bool.and_eq_true] at hfl
      obtain ⟨l0, l1, l2, l3⟩ := hfl
      have low6 := low5.put (low5.lt ge2) (ob := .row [c0, c1, c2, c3] 0 false (some 28))
      obtain ⟨H7, e1, e2, e3, e4⟩ := Chain.shut (ch.keep (H' := H5.put (H.n + 2) (.row [c0, c1, c2, c3] 0 false (some 28))) fun j h1 h2 => by rw [h_gput, if_neg (by omega)]) 64 (by omega) low6
      have hsv : shutV (.agg [c0, c1, c2, c3]) (H5.put (H.n + 2) (.row [c0, c1, c2, c3] 0 false (some 28))) = some ((bindAll ls (.mk k t ns ps)).v, H7) := by
        rw [shutV_agg, e1]; rfl
      have hl4 : ∀ cs : List AV, cs = [c0, c1, c2, c3] → cs.length = 4 := fun cs h => by rw [h]; rfl
      simp -implicitDefEqProofs only [c38_l1, ↓v_lenS, SB, POp.val, AOp.val, WOp.val, Lite.bin, intBin, strBin, eqv, eqMany, eq1, AV.asBool, AV.asInt, AV.asNat, AV.asPtr, AV.asStr, resVals, ResV.val, oneOr, wants, skipped, fillAt, putAt, capOf, optNat, bnd, Nat.reduceBEq, reduceIte, Nat.reduceAdd, Nat.reduceLeDiff, Nat.reduceEqDiff, Nat.reduceSub, Nat.reduceMul, Nat.reduceDiv, SOper.again, same, sameBlk, sameCap, Nat.reduceBneDiff, s_draw2, s_pair, k_pair, asunder, SOper.into, Bool.not_false, Bool.not_true, CL, XS, q3, q4, q11, ge1, ge2, hneg, hKe2, l0, l1, l2, l3, gives_ret]
      refine ⟨_, _, hsv, rfl, ?_, ?_⟩
      · rw [e2 k0 (by left; have := low.lt g0; omega), h_gput, if_neg n2]; exact gk5
      · refine ⟨?_, fun j o hj ho => ?_, fun _ => e4⟩
        · rw [e3, h_nput]; exact kp5.n
        · have hjn := low.lt hj
          rw [e2 j (by left; omega), h_gput, if_neg (by omega)]
          exact kp5.get j o hj ho
    · refine ⟨.int .i64 k, .str t, vStrs ns, vXs ps, H3.n, ?_, by omega, gd1, gd2, gk4, low4, kp4, by omega, ?_, ?_, ?_, fun hL0 => ?_⟩
      · rw [Nat.sub_zero, List.drop_length, ← X.cells_mk]
        exact .nil (Nat.le_refl _)
      · simp -implicitDefEqProofs only [↓v_lenS, SB, POp.val, AOp.val, WOp.val, Lite.bin, intBin, strBin, eqv, eqMany, eq1, AV.asBool, AV.asInt, AV.asNat, AV.asPtr, AV.asStr, resVals, ResV.val, oneOr, wants, skipped, fillAt, putAt, capOf, optNat, bnd, Nat.reduceBEq, reduceIte, Nat.reduceAdd, Nat.reduceLeDiff, Nat.reduceEqDiff, Nat.reduceSub, Nat.reduceMul, Nat.reduceDiv, SOper.again, same, sameBlk, sameCap, Nat.reduceBneDiff, s_draw2, s_pair, k_pair, asunder, SOper.into, Bool.not_false, Bool.not_true, r3]
      · simp -implicitDefEqProofs only [↓v_lenS, SB, POp.val, AOp.val, WOp.val, Lite.bin, intBin, strBin, eqv, eqMany, eq1, AV.asBool, AV.asInt, AV.asNat, AV.asPtr, AV.asStr, resVals, ResV.val, oneOr, wants, skipped, fillAt, putAt, capOf, optNat, bnd, Nat.reduceBEq, reduceIte, Nat.reduceAdd, Nat.reduceLeDiff, Nat.reduceEqDiff, Nat.reduceSub, Nat.reduceMul, Nat.reduceDiv, SOper.again, same, sameBlk, sameCap, Nat.reduceBneDiff, s_draw2, s_pair, k_pair, asunder, SOper.into, Bool.not_false, Bool.not_true, r4]
      · simp -implicitDefEqProofs only [↓v_lenS, SB, POp.val, AOp.val, WOp.val, Lite.bin, intBin, strBin, eqv, eqMany, eq1, AV.asBool, AV.asInt, AV.asNat, AV.asPtr, AV.asStr, resVals, ResV.val, oneOr, wants, skipped, fillAt, putAt, capOf, optNat, bnd, Nat.reduceBEq, reduceIte, Nat.reduceAdd, Nat.reduceLeDiff, Nat.reduceEqDiff, Nat.reduceSub, Nat.reduceMul, Nat.reduceDiv, SOper.again, same, sameBlk, sameCap, Nat.reduceBneDiff, s_draw2, s_pair, k_pair, asunder, SOper.into, Bool.not_false, Bool.not_true]
      · rcases accu4 with ⟨h1, _, _⟩ | ⟨h1, h2, ku, rfl, h3, h4⟩
        · exact absurd h1 hL0
        · refine ⟨ku, _, ?_, h3, ?_, h4, h2, ?_⟩
          · simp -implicitDefEqProofs only [↓v_lenS, SB, POp.val, AOp.val, WOp.val, Lite.bin, intBin, strBin, eqv, eqMany, eq1, AV.asBool, AV.asInt, AV.asNat, AV.asPtr, AV.asStr, resVals, ResV.val, oneOr, wants, skipped, fillAt, putAt, capOf, optNat, bnd, Nat.reduceBEq, reduceIte, Nat.reduceAdd, Nat.reduceLeDiff, Nat.reduceEqDiff, Nat.reduceSub, Nat.reduceMul, Nat.reduceDiv, SOper.again, same, sameBlk, sameCap, Nat.reduceBneDiff, s_draw2, s_pair, k_pair, asunder, SOper.into, Bool.not_false, Bool.not_true, r7]
          · have := low4.lt h4; omega
          · rw [Nat.sub_zero, ← h2, List.take_length, List.take_length]
  · refine ⟨.nils, .nils, ?_, ?_, Apart.nils, (low.push.push.push).put (by simp [h_n]), (((HKeep.push low).pushed low).pushed low).own low (by omega) (by simp [h_n]), by simp only [h_nput, h_n]; omega, ?_⟩
    · rw [List.take_zero, X.nrms]; exact Acc.nil
    · rw [List.take_zero, X.nrms]; exact Acc.nil
    · simp -implicitDefEqProofs only [↓v_lenS, SB, POp.val, AOp.val, WOp.val, Lite.bin, intBin, strBin, eqv, eqMany, eq1, AV.asBool, AV.asInt, AV.asNat, AV.asPtr, AV.asStr, resVals, ResV.val, oneOr, wants, skipped, fillAt, putAt, capOf, optNat, bnd, Nat.reduceBEq, reduceIte, Nat.reduceAdd, Nat.reduceLeDiff, Nat.reduceEqDiff, Nat.reduceSub, Nat.reduceMul, Nat.reduceDiv, SOper.again, same, sameBlk, sameCap, Nat.reduceBneDiff, s_draw2, s_pair, k_pair, asunder, SOper.into, Bool.not_false, Bool.not_true, List.take_zero, X.nrms, g0, n0, n1, n2]
      rfl

end Go.Lite

/-
  The program's Norm.
-/
namespace Go.Lite
open Go Go.Proofs
set_option maxRecDepth 100000
set_option linter.unusedSimpArgs false
set_option linter.unusedVariables false

theorem norm16 (x : X) (hf : x.fit) (hc : (x.nrm 0).2 < 100) : Ret P3 16 [x.v] (x.nrm 0).1.v := by
  refine Ret.of rfl (code16 _ _) rfl rfl (fun H => by simp -implicitDefEqProofs only [mapHM_nil, mapHM_cons, X.shut, Option.bind_some, Option.map_some]) ?_
  refine (norm38 x hf 0 hc).mono fun n e H => ?_
  obtain ⟨k, t, ns, l⟩ := x
  have e := e ((((H.bare.push (.row [.int .i64 k, .str t, vStrs ns, vXs l] 0 false (some 28))).push (.row [.int .i64 0, .str [], .nils, .nils] 0 false (some 28))).push (.row [.int .i64 0] 0 false (some 59)))) 2 (some 59) (HLow.bare.push.push.push) (by simp [h_get, h_n, h_nbare])
  generalize hR : (X.mk k t ns l).nrm 0 = R at *
  obtain ⟨y, c⟩ := R
  obtain ⟨ky, ty, ny, ly⟩ := y
  simp only [X.v_mk] at e
  simp -implicitDefEqProofs only [c16, ↓v_lenS, SB, POp.val, AOp.val, WOp.val, Lite.bin, intBin, strBin, eqv, eqMany, eq1, AV.asBool, AV.asInt, AV.asNat, AV.asPtr, AV.asStr, resVals, ResV.val, oneOr, wants, skipped, fillAt, putAt, capOf, optNat, bnd, Nat.reduceBEq, reduceIte, Nat.reduceAdd, Nat.reduceLeDiff, Nat.reduceEqDiff, Nat.reduceSub, Nat.reduceMul, Nat.reduceDiv, SOper.again, same, sameBlk, sameCap, Nat.reduceBneDiff, s_draw2, s_pair, k_pair, asunder, SOper.into, Bool.not_false, Bool.not_true, CL, XS, shutC_ptr]
  refine gives_call e ?_
  rintro w H5 ⟨rfl, gk5, kp5⟩
  have g1 := kp5.get 1 (.row [.int .i64 0, .str [], .nils, .nils] 0 false (some 28)) (by simp [h_get, h_n, h_nbare]) (only_row (by decide))
  simp -implicitDefEqProofs only [↓v_lenS, SB, POp.val, AOp.val, WOp.val, Lite.bin, intBin, strBin, eqv, eqMany, eq1, AV.asBool, AV.asInt, AV.asNat, AV.asPtr, AV.asStr, resVals, ResV.val, oneOr, wants, skipped, fillAt, putAt, capOf, optNat, bnd, Nat.reduceBEq, reduceIte, Nat.reduceAdd, Nat.reduceLeDiff, Nat.reduceEqDiff, Nat.reduceSub, Nat.reduceMul, Nat.reduceDiv, SOper.again, same, sameBlk, sameCap, Nat.reduceBneDiff, s_draw2, s_pair, k_pair, asunder, SOper.into, Bool.not_false, Bool.not_true, CL, XS, g1, Ends, gives_ret]
  exact ⟨_, rfl⟩

end Go.Lite

/-
  A copy of names; what is told of it later.
-/
namespace Go.Lite
open Go Go.Proofs
set_option maxRecDepth 100000
set_option linter.unusedSimpArgs false
set_option linter.unusedVariables false

theorem taken_vStrs {ns : List Str} {H : Heap} : taken 1 H (vStrs ns) = some (ns.length, ns.flatMap str1) := taken_vList

/-- a copy of names: nothing, or a row -/
def NamesAt (N : Nat) (H : Heap) (ns : List Str) (v : AV) : Prop := (ns = [] ∧ v = .lst 0 0 true []) ∨ Acc N H 9 1 ns.length (ns.flatMap str1) v

theorem NamesAt.flat {N : Nat} {H : Heap} {ns : List Str} {v : AV} (h : NamesAt N H ns v) : v.flat = true := by
  rcases h with ⟨_, rfl⟩ | h
  · rfl
  · exact h.flat

theorem NamesAt.shut {N : Nat} {H : Heap} {ns : List Str} {v : AV} (h : NamesAt N H ns v) (d : Nat) : ∃ H', shutC (d + 1) v H = some (vStrs ns, H') ∧ HKeep (blk v) H H' := by
  rcases h with ⟨rfl, rfl⟩ | h
  · exact ⟨H, rfl, HKeep.refl⟩
  · exact h.shut (by decide) (Still.flat str1_still _)

theorem strs_flat (ns : List Str) : (ns.flatMap str1).all AV.flat = true := by
  rw [List.all_eq_true]
  intro c hc
  obtain ⟨x, _, hx⟩ := List.mem_flatMap.1 hc
  rw [List.mem_singleton.1 hx]
  rfl

theorem names_app {G : Heap} (low : HLow G) (ns : List Str) (hb : ns.length ≤ 1048576) : ∃ v G1, appendOf 9 1 16 G (.lst 0 0 true []) (ns.length, ns.flatMap str1) = some (v, G1) ∧ NamesAt G.n G1 ns v ∧ HLow G1 ∧ G.n ≤ G1.n ∧ (∀ j, j < G.n → G1.t.get j = G.t.get j) ∧ HKeep (fun _ _ => False) G G1 := by
  cases ns with
  | nil => exact ⟨.lst 0 0 true [], G, rfl, .inl ⟨rfl, rfl⟩, low, Nat.le_refl _, fun _ _ => rfl, HKeep.refl⟩
  | cons s ns =>
    have hl : ((s :: ns).flatMap str1).length = (s :: ns).length * 1 := flat_len str1_len _
    simp only [List.length_cons] at hb
    have happ : appendOf 9 1 16 G (.lst 0 0 true []) ((s :: ns).length, (s :: ns).flatMap str1) = some (.slice (.new G.n) 0 (s :: ns).length (.gro 1), G.push (.row ((s :: ns).flatMap str1) 1 false (some 9))) := by
      unfold appendOf
      rw [if_neg (by rw [strs_flat]; simp)]
      simp only []
      rw [if_neg (by simp), if_pos ⟨.inr trivial, trivial, by simp only [List.length_cons]; omega, by simp only [List.length_cons]; omega⟩]
      simp [Heap.fresh]
    refine ⟨_, _, happ, .inr (.inr ⟨by simp, hl, G.n, rfl, Nat.le_refl _, by rw [h_get, if_pos rfl]⟩), low.push, by simp [h_n], fun j hj => by rw [h_get, if_neg (by omega)], HKeep.push low⟩

theorem NamesAt.weak {N N' : Nat} {H : Heap} {ns : List Str} {v : AV} (h : NamesAt N H ns v) (hN : N' ≤ N) : NamesAt N' H ns v := by
  rcases h with h | h | ⟨h1, h2, k, h3, h4, h5⟩
  · exact .inl h
  · exact .inr (.inl h)
  · exact .inr (.inr ⟨h1, h2, k, h3, by omega, h5⟩)

theorem NamesAt.kept {X : Nat → Obj → Prop} {N : Nat} {H H' : Heap} {ns : List Str} {v : AV} (h : NamesAt N H ns v) (k : HKeep X H H') (hx : ∀ j o, N ≤ j → blk v j o → ¬ X j o) : NamesAt N H' ns v := by
  rcases h with h | h
  · exact .inl h
  · refine .inr (h.keep fun j o hb hj => ?_)
    rcases h with ⟨_, _, rfl⟩ | ⟨_, _, k', rfl, h3, h4⟩
    · obtain ⟨_, _, _, e⟩ := hb
      cases e
    · obtain ⟨_, _, _, e⟩ := hb
      simp only [AV.slice.injEq, Blk.new.injEq] at e
      obtain ⟨rfl, _⟩ := e
      rw [h4]
      exact k.get _ _ h4 (hx _ _ h3 ⟨_, _, _, rfl⟩)

theorem NamesAt.apart_fresh {N : Nat} {H : Heap} {ns : List Str} {v : AV} (h : NamesAt N H ns v) (low : HLow H) {k o m : Nat} {c : Cap} (hk : H.n ≤ k) : Apart (.slice (.new k) o m c) v := by
  rcases h with ⟨_, rfl⟩ | h
  · exact fun j o n c j' o' n' c' _ h => by cases h
  · exact h.fresh low hk

end Go.Lite

/-
  The document's norm.
-/
namespace Go.Lite
open Go Go.Proofs
set_option maxRecDepth 100000
set_option linter.unusedSimpArgs false
set_option linter.unusedVariables false

def RefOk (x : X) : Prop := ∀ c : Nat, (x.nrm c).2 < 100 → Ev fun n => ∀ (H : Heap) (k0 : Nat) (ty : Option Nat), HLow H → H.t.get k0 = some (.row [.str [37, 46], .int .i64 c] 0 false ty) →
  Gives (call1 P3 n 39 [.ptr (.new k0) 0, x.v] H) fun v H' => v = (x.nrm c).1.v ∧ H'.t.get k0 = some (.row [.str [37, 46], .int .i64 (x.nrm c).2] 0 false ty) ∧ HKeep (only k0) H H'

set_option maxHeartbeats 4000000 in
theorem norm39 : ∀ x : X, x.fit → RefOk x := X.indA fun k t ns l ih hf c hc => by
  obtain ⟨f1, f2, f3⟩ := hf
  have f3 := (X.fits_iff l).1 f3
  rw [X.nrm] at hc ⊢
  simp only [] at hc ⊢
  have ihe : Ev fun n => ∀ x ∈ l, ∀ b ∈ List.range 100, (x.nrm b).2 < 100 → ∀ (H : Heap) (k0 : Nat) (ty : Option Nat), HLow H → H.t.get k0 = some (.row [.str [37, 46], .int .i64 b] 0 false ty) →
      Gives (call1 P3 n 39 [.ptr (.new k0) 0, x.v] H) fun v H' => v = (x.nrm b).1.v ∧ H'.t.get k0 = some (.row [.str [37, 46], .int .i64 (x.nrm b).2] 0 false ty) ∧ HKeep (only k0) H H' := by
    refine Ev.all l fun x hx => Ev.all _ fun b hb => ?_
    by_cases h : (x.nrm b).2 < 100
    · exact (ih x hx (f3 x hx) b h).mono fun n hn _ => hn
    · exact Ev.of fun n h' => absurd h' h
  have nme : Ev fun n => ∀ b ∈ List.range 100, b + 1 < 100 → ∀ (H : Heap) (k0 : Nat) (ty : Option Nat), HLow H → H.t.get k0 = some (.row [.str [37, 46], .int .i64 b] 0 false ty) →
      Gives (call1 P3 n 52 [.ptr (.new k0) 0] H) fun v H' => v = .str (pct (b + 1)) ∧ H'.t.get k0 = some (.row [.str [37, 46], .int .i64 (b + 1 : Nat)] 0 false ty) ∧ HKeep (only k0) H H' := by
    refine Ev.all _ fun b hb => ?_
    by_cases h : b + 1 < 100
    · exact (next52 b h).mono fun n hn _ => hn
    · exact Ev.of fun n h' => absurd h' h
  have ate : Ev fun n => ∀ x ∈ l, ∀ b ∈ List.range 100, ∀ H, callN P3 n 36 [(x.nrm b).1.v] H = some (.ret (.bool (x.nrm b).1.atom), H) := Ev.all l fun x _ => Ev.all _ fun b _ => atom36 _
  have vre : Ev fun n => ∀ b ∈ List.range 101, ∀ H, callN P3 n 25 [.str (pct b)] H = some (.ret (varX (pct b)).v, H) := Ev.all _ fun b _ => var25 _
  have bde : Ev fun n => ∀ p ∈ (X.nrms l ((must k t).getD l.length) 0 c).2.1, ∀ r ∈ List.range (l.length + 1), ∀ H, callN P3 n 27 [.str p.1, p.2.v, (bindAll ((X.nrms l ((must k t).getD l.length) 0 c).2.1.drop r) (.mk k t ns (X.nrms l ((must k t).getD l.length) 0 c).1)).v] H =
      some (.ret (bindX p.1 p.2 (bindAll ((X.nrms l ((must k t).getD l.length) 0 c).2.1.drop r) (.mk k t ns (X.nrms l ((must k t).getD l.length) 0 c).1))).v, H) := Ev.all _ fun p _ => Ev.all _ fun r _ => bind27 _ _ _
  refine Ev.succ ((ihe.and (nme.and (ate.and ((lazy35 k t ns l).and (vre.and (bde.and (Ev.ge (l.length + 3)))))))).mono fun n hn H k0 ty low g0 => ?_)
  obtain ⟨ihn, nmn, atn, e35, vrn, bdn, hge⟩ := hn
  rw [call1_code (P := P3) (sf := c39) (code39 _ _) rfl]
  refine gives_settled ?_
  have hk0 := low.lt g0
  have n0 : ¬ k0 = H.n := by omega
  have n1 : ¬ k0 = H.n + 1 := by omega
  have n2 : ¬ k0 = H.n + 2 := by omega
  have n3 : ¬ k0 = H.n + 3 := by omega
  rw [X.v_mk] at e35
  have lowa : HLow ((((H.push (.row [.int .i64 k, .str t, vStrs ns, vXs l] 0 false (some 28))).push (.row [.int .i64 0, .str [], .nils, .nils] 0 false (some 28))).push (.row [] 0 true none)).push (.row [.int .i64 0, .str [], .nils, .nils] 0 false (some 28))) := low.push.push.push.push
  obtain ⟨vn, H1, happ, nat1, low1, hn1, hrow1, kp1⟩ := names_app lowa ns f1
  have fvn := nat1.flat
  have e0 := hrow1 H.n (by simp only [h_n]; omega)
  have e1 := hrow1 (H.n + 1) (by simp only [h_n]; omega)
  have e3 := hrow1 (H.n + 3) (by simp only [h_n]; omega)
  have ek := hrow1 k0 (by simp only [h_n]; omega)
  have m1 : ¬ H.n = H.n + 1 := by omega
  have m2 : ¬ H.n = H.n + 2 := by omega
  have m3 : ¬ H.n = H.n + 3 := by omega
  have m4 : ¬ H.n + 1 = H.n + 2 := by omega
  have m5 : ¬ H.n + 1 = H.n + 3 := by omega
  have m6 : ¬ H.n + 1 = H.n := by omega
  have m7 : ¬ H.n + 3 = H.n := by omega
  have m8 : ¬ H.n + 3 = H.n + 1 := by omega
  simp -implicitDefEqProofs only [h_get, h_n, m1, m2, m3, m4, m5, m6, n0, n1, n2, n3, g0, if_neg, if_pos, Nat.add_assoc, Nat.reduceAdd] at e0 e1 e3 ek
  have kpa : HKeep (only k0) H H1 := (((HKeep.push low).pushed low).pushed low).pushed low |>.trans (kp1.mono fun _ _ _ h => h.elim)
  simp only [h_n, Nat.add_assoc, Nat.reduceAdd] at nat1 hn1
  generalize hm : (must k t).getD l.length = m at *
  simp -implicitDefEqProofs only [c39, ↓v_lenS, SB, POp.val, AOp.val, WOp.val, Lite.bin, intBin, strBin, eqv, eqMany, eq1, AV.asBool, AV.asInt, AV.asNat, AV.asPtr, AV.asStr, resVals, ResV.val, oneOr, wants, skipped, fillAt, putAt, capOf, optNat, bnd, Nat.reduceBEq, reduceIte, Nat.reduceAdd, Nat.reduceLeDiff, Nat.reduceEqDiff, Nat.reduceSub, Nat.reduceMul, Nat.reduceDiv, SOper.again, same, sameBlk, sameCap, Nat.reduceBneDiff, s_draw2, s_pair, k_pair, asunder, SOper.into, Bool.not_false, Bool.not_true, CL, XS, g0, n0, n1, n2, m1, m2, m3, m4, m5, m6, m7, m8, taken_vStrs, happ, fvn, e0, e1, e3, e35]
  have hz : (∃ z : Nat, m = z ∧ lazyZ k t = z) ∨ (m = l.length ∧ lazyZ k t = -1) := by
    unfold lazyZ
    cases h : must k t with
    | none => rw [h] at hm; exact .inr ⟨hm.symm, rfl⟩
    | some z => rw [h] at hm; exact .inl ⟨z, hm.symm, rfl⟩
  have hn1' : H.n + 3 < H1.n := by omega
  have nat2 := nat1.kept (X := only (H.n + 3)) (HKeep.put (X := only (H.n + 3)) (fun _ => rfl) hn1' (ob := .row [.int .i64 k, .str t, vn, .nils] 0 false (some 28))) fun j o hj _ => only_row (by omega)
  refine loop_rounds l.length (fun i fr H2 => ∃ nv vv pv, Acc H.n H2 9 1 (X.nrms (l.take i) m 0 c).2.1.length (((X.nrms (l.take i) m 0 c).2.1.map Prod.fst).flatMap str1) nv ∧ Acc H.n H2 28 4 (X.nrms (l.take i) m 0 c).2.1.length (((X.nrms (l.take i) m 0 c).2.1.map Prod.snd).flatMap X.cells) vv ∧
    Acc H.n H2 28 4 i ((X.nrms (l.take i) m 0 c).1.flatMap X.cells) pv ∧ NamesAt H.n H2 ns vn ∧ Apart nv vn ∧ Apart vv pv ∧
    HLow H2 ∧ HKeep (only k0) H H2 ∧ H.n + 3 < H2.n ∧ H2.t.get k0 = some (.row [.str [37, 46], .int .i64 (X.nrms (l.take i) m 0 c).2.2] 0 false ty) ∧
    fr 0 = .ptr (.new k0) 0 ∧ fr 3 = .ptr (.new H.n) 0 ∧ fr 4 = .ptr (.new (H.n + 1)) 0 ∧ fr 5 = .ptr (.new (H.n + 3)) 0 ∧ fr 6 = .int .i64 (lazyZ k t) ∧ fr 7 = nv ∧ fr 8 = vv ∧ fr 9 = .int .i64 i ∧
    H2.t.get H.n = some (.row [.int .i64 k, .str t, vStrs ns, vXs l] 0 false (some 28)) ∧ H2.t.get (H.n + 1) = some (.row [.int .i64 0, .str [], .nils, .nils] 0 false (some 28)) ∧ H2.t.get (H.n + 3) = some (.row [.int .i64 k, .str t, vn, pv] 0 false (some 28))) ?_ ?_ n 0 _ _ (by omega) (by omega) ?_
  · rintro i fr H2 K' hi ⟨nv, vv, pv, accn, accv, accp, nat, apn, apv, low2, kp, hn2, gk, r0, r3, r4, r5, r6, r7, r8, r9, gb0, gb1, gb3⟩ hKe hKr hK
    obtain ⟨x, hx⟩ : ∃ x, l[i]? = some x := ⟨l[i], List.getElem?_eq_getElem hi⟩
    have hlt : (i : Int) < (l.length : Int) := by omega
    have hw := wrap_succ hi (by omega)
    have hnt := nrms_take hx m c
    have hle1 := nrms_take_le l m (i + 1) c
    have hll2 := (nrms_lets_len (l.take i) m 0 c).1
    rw [List.length_take] at hll2
    rw [hnt] at hle1
    generalize X.nrms (l.take i) m 0 c = S at *
    obtain ⟨ps, ls, b⟩ := S
    simp only [] at hnt hle1 gk accn accv accp hll2
    have hbx : (x.nrm b).2 < 100 := by
      split at hle1 <;> simp only [] at hle1 <;> omega
    have hb : b < 100 := by have := nrm_le x b; omega
    have ey := atn x (List.mem_of_getElem? hx) b (List.mem_range.2 hb)
    have e1 := ihn x (List.mem_of_getElem? hx) b (List.mem_range.2 hb) hbx _ k0 ty low2 gk
    generalize x.nrm b = R at *
    obtain ⟨y, b2⟩ := R
    simp only [] at e1 hnt hle1 hbx ey
    obtain ⟨kx, tx, nx, lx⟩ := x
    obtain ⟨ky, ty', ny, ly⟩ := y
    simp only [X.v_mk, X.cells_mk] at e1 ey
    have fn := accn.flat
    have fv := accv.flat
    have fp := accp.flat
    simp -implicitDefEqProofs only [c39_l0, ↓v_lenS, SB, POp.val, AOp.val, WOp.val, Lite.bin, intBin, strBin, eqv, eqMany, eq1, AV.asBool, AV.asInt, AV.asNat, AV.asPtr, AV.asStr, resVals, ResV.val, oneOr, wants, skipped, fillAt, putAt, capOf, optNat, bnd, Nat.reduceBEq, reduceIte, Nat.reduceAdd, Nat.reduceLeDiff, Nat.reduceEqDiff, Nat.reduceSub, Nat.reduceMul, Nat.reduceDiv, SOper.again, same, sameBlk, sameCap, Nat.reduceBneDiff, s_draw2, s_pair, k_pair, asunder, SOper.into, Bool.not_false, Bool.not_true, CL, XS, r0, r3, r4, r5, r6, r7, r8, r9, gb0, gb1, gb3, hlt, iaddr_vXs hx]
    refine gives_call e1 ?_
    rintro w H5 ⟨rfl, gk5, kp5⟩
    have low5 := kp5.low low2
    have hk2 := low2.lt gk
    have hg0 := kp5.get _ _ gb0 (only_row (Ne.symm n0))
    have hg1 := kp5.get _ _ gb1 (only_row (Ne.symm n1))
    have hg3 := kp5.get _ _ gb3 (only_row (Ne.symm n3))
    have hn5 := low5.lt hg3
    have accn5 := accn.kept kp5 fun j hj _ => only_row (by omega)
    have accv5 := accv.kept kp5 fun j hj _ => only_row (by omega)
    have accp5 := accp.kept kp5 fun j hj _ => only_row (by omega)
    have nat5 := nat.kept kp5 fun j o hj _ => only_row (by omega)
    have kp5' := kp.trans kp5
    have hk5 := low5.lt gk5
    have z0 : ¬ H.n = H5.n := by omega
    have z1 : ¬ H.n + 1 = H5.n := by omega
    have z3 : ¬ H.n + 3 = H5.n := by omega
    have zk : ¬ k0 = H5.n := by omega
    simp -implicitDefEqProofs only [↓v_lenS, SB, POp.val, AOp.val, WOp.val, Lite.bin, intBin, strBin, eqv, eqMany, eq1, AV.asBool, AV.asInt, AV.asNat, AV.asPtr, AV.asStr, resVals, ResV.val, oneOr, wants, skipped, fillAt, putAt, capOf, optNat, bnd, Nat.reduceBEq, reduceIte, Nat.reduceAdd, Nat.reduceLeDiff, Nat.reduceEqDiff, Nat.reduceSub, Nat.reduceMul, Nat.reduceDiv, SOper.again, same, sameBlk, sameCap, Nat.reduceBneDiff, s_draw2, s_pair, k_pair, asunder, SOper.into, Bool.not_false, Bool.not_true, CL, XS, r0, r3, r4, r5, r6, r7, r8, r9]
    have low6 : HLow ((H5.push (.row [.int .i64 0, .str [], .nils, .nils] 0 false (some 28))).put H5.n (.row [.int .i64 ky, .str ty', vStrs ny, vXs ly] 0 false (some 28))) := low5.push.put (by simp only [h_n]; omega)
    have n6 : ((H5.push (.row [.int .i64 0, .str [], .nils, .nils] 0 false (some 28))).put H5.n (.row [.int .i64 ky, .str ty', vStrs ny, vXs ly] 0 false (some 28))).n = H5.n + 1 := by rw [h_nput, h_n]
    have g10 : ((H5.push (.row [.int .i64 0, .str [], .nils, .nils] 0 false (some 28))).put H5.n (.row [.int .i64 ky, .str ty', vStrs ny, vXs ly] 0 false (some 28))).t.get H5.n = some (.row [.int .i64 ky, .str ty', vStrs ny, vXs ly] 0 false (some 28)) := by rw [h_gput, if_pos rfl]
    have car6 : ∀ j cs tt, j < H5.n → H5.t.get j = some (.row cs 0 false tt) → ((H5.push (.row [.int .i64 0, .str [], .nils, .nils] 0 false (some 28))).put H5.n (.row [.int .i64 ky, .str ty', vStrs ny, vXs ly] 0 false (some 28))).t.get j = some (.row cs 0 false tt) := fun j cs tt hj hg => by
      rw [h_gput, if_neg (by omega), h_get, if_neg (by omega)]; exact hg
    have hgz : (H5.push (.row [.int .i64 0, .str [], .nils, .nils] 0 false (some 28))).t.get H5.n = some (.row [.int .i64 0, .str [], .nils, .nils] 0 false (some 28)) := by rw [h_get, if_pos rfl]
    have accn6 := (accn5.push low5 (ob := .row [.int .i64 0, .str [], .nils, .nils] 0 false (some 28))).put (by decide) hgz (ob := .row [.int .i64 ky, .str ty', vStrs ny, vXs ly] 0 false (some 28))
    have accv6 := (accv5.push low5 (ob := .row [.int .i64 0, .str [], .nils, .nils] 0 false (some 28))).put (by decide) hgz (ob := .row [.int .i64 ky, .str ty', vStrs ny, vXs ly] 0 false (some 28))
    have accp6 := (accp5.push low5 (ob := .row [.int .i64 0, .str [], .nils, .nils] 0 false (some 28))).put (by decide) hgz (ob := .row [.int .i64 ky, .str ty', vStrs ny, vXs ly] 0 false (some 28))
    have hkz : HKeep (fun j _ => H5.n ≤ j) H5 ((H5.push (.row [.int .i64 0, .str [], .nils, .nils] 0 false (some 28))).put H5.n (.row [.int .i64 ky, .str ty', vStrs ny, vXs ly] 0 false (some 28))) := ⟨by rw [n6]; omega, fun j o hj ho => by
      have := low5.lt hj
      rw [h_gput, if_neg (by omega), h_get, if_neg (by omega)]; exact hj, fun _ => low6⟩
    have nat6 : NamesAt H.n ((H5.push (.row [.int .i64 0, .str [], .nils, .nils] 0 false (some 28))).put H5.n (.row [.int .i64 ky, .str ty', vStrs ny, vXs ly] 0 false (some 28))) ns vn := by
      rcases nat5 with h | h
      · exact .inl h
      · exact .inr ((h.push low5 (ob := .row [.int .i64 0, .str [], .nils, .nils] 0 false (some 28))).put (by decide) hgz (ob := .row [.int .i64 ky, .str ty', vStrs ny, vXs ly] 0 false (some 28)))
    have kp6 := (kp5'.pushed low (ob := .row [.int .i64 0, .str [], .nils, .nils] 0 false (some 28))).own low (j := H5.n) (by omega) (by simp only [h_n]; omega) (ob := .row [.int .i64 ky, .str ty', vStrs ny, vXs ly] 0 false (some 28))
    have gk6 := car6 _ _ _ hk5 gk5
    have gc0 := car6 _ _ _ (by omega) hg0
    have gc1 := car6 _ _ _ (by omega) hg1
    have gc3 := car6 _ _ _ hn5 hg3
    clear hkz
    generalize (H5.push (.row [.int .i64 0, .str [], .nils, .nils] 0 false (some 28))).put H5.n (.row [.int .i64 ky, .str ty', vStrs ny, vXs ly] 0 false (some 28)) = H6 at *
    by_cases hcase : m ≤ i ∧ (X.mk ky ty' ny ly).atom = false
    · rw [if_pos hcase] at hnt hle1
      simp only [] at hle1
      obtain ⟨hmi, hat⟩ := hcase
      rw [hat] at ey
      have hz' : lazyZ k t = (m : Int) := by
        rcases hz with ⟨z, rfl, hz⟩ | ⟨rfl, hz⟩
        · exact hz
        · omega
      have hmi' : (m : Int) ≤ (i : Int) := by omega
      have e2 := nmn b2 (List.mem_range.2 (by omega)) (by omega) H6 k0 ty low6 gk6
      have e25 := vrn (b2 + 1) (List.mem_range.2 (by omega))
      simp only [varX, X.v_mk] at e25
      simp -implicitDefEqProofs only [↓v_lenS, SB, POp.val, AOp.val, WOp.val, Lite.bin, intBin, strBin, eqv, eqMany, eq1, AV.asBool, AV.asInt, AV.asNat, AV.asPtr, AV.asStr, resVals, ResV.val, oneOr, wants, skipped, fillAt, putAt, capOf, optNat, bnd, Nat.reduceBEq, reduceIte, Nat.reduceAdd, Nat.reduceLeDiff, Nat.reduceEqDiff, Nat.reduceSub, Nat.reduceMul, Nat.reduceDiv, SOper.again, same, sameBlk, sameCap, Nat.reduceBneDiff, s_draw2, s_pair, k_pair, asunder, SOper.into, Bool.not_false, Bool.not_true, CL, XS, r0, r3, r4, r5, r6, r7, r8, r9, hz', ge_iff_le, Int.natCast_nonneg, hmi', g10, gc3, ey]
      refine gives_call e2 ?_
      rintro w H7 ⟨rfl, gk7, kp7⟩
      have low7 := kp7.low low6
      have g107 := kp7.get _ _ g10 (only_row (Ne.symm zk))
      have gd0 := kp7.get _ _ gc0 (only_row (Ne.symm n0))
      have gd1 := kp7.get _ _ gc1 (only_row (Ne.symm n1))
      have gd3 := kp7.get _ _ gc3 (only_row (Ne.symm n3))
      have accn7 := accn6.kept kp7 fun j hj _ => only_row (by omega)
      have accv7 := accv6.kept kp7 fun j hj _ => only_row (by omega)
      have accp7 := accp6.kept kp7 fun j hj _ => only_row (by omega)
      have nat7 := nat6.kept kp7 fun j o hj _ => only_row (by omega)
      have kp7' := kp6.trans kp7
      have hn7 := low7.lt g107
      have hk7 := low7.lt gk7
      have l8a := low7.push (ob := .row [.str (pct (b2 + 1))] 0 true none)
      have l8b := l8a.push (ob := .row [.int .i64 ky, .str ty', vStrs ny, vXs ly] 0 true none)
      have accn8 := (accn7.push low7 (ob := .row [.str (pct (b2 + 1))] 0 true none)).push l8a (ob := .row [.int .i64 ky, .str ty', vStrs ny, vXs ly] 0 true none)
      have accv8 := (accv7.push low7 (ob := .row [.str (pct (b2 + 1))] 0 true none)).push l8a (ob := .row [.int .i64 ky, .str ty', vStrs ny, vXs ly] 0 true none)
      have accp8 := (accp7.push low7 (ob := .row [.str (pct (b2 + 1))] 0 true none)).push l8a (ob := .row [.int .i64 ky, .str ty', vStrs ny, vXs ly] 0 true none)
      have kp8' := (kp7'.pushed low (ob := .row [.str (pct (b2 + 1))] 0 true none)).pushed low (ob := .row [.int .i64 ky, .str ty', vStrs ny, vXs ly] 0 true none)
      obtain ⟨H8, happ8, accn9, kp9, low9, hn9⟩ := accn8.one_more (e := 9) (bs := 16) (ys := [.str (pct (b2 + 1))]) (by simp only [h_n]; omega) l8b (by decide) rfl rfl (by omega)
      have accv9 := accn8.other accv8 (by decide) kp9
      have accp9 := accn8.other accp8 (by decide) kp9
      have apn9 : Apart (.slice (.new (H7.n + 1 + 1)) 0 (ls.length + 1) (.gro 1)) vn := nat7.apart_fresh low7 (by omega)
      have nat9 : NamesAt H.n H8 ns vn := by
        rcases nat7 with h | h
        · exact .inl h
        · exact .inr (accn8.beside ((h.push low7 (ob := .row [.str (pct (b2 + 1))] 0 true none)).push l8a (ob := .row [.int .i64 ky, .str ty', vStrs ny, vXs ly] 0 true none)) apn kp9)
      have kp9' := accn8.keeps kp8' low kp9
      have car8 : ∀ j cs tt, j < H7.n → H7.t.get j = some (.row cs 0 false tt) → H8.t.get j = some (.row cs 0 false tt) := fun j cs tt hj hg =>
        accn8.row (by decide) kp9 (by rw [h_get, if_neg (by simp only [h_n]; omega), h_get, if_neg (by omega)]; exact hg)
      have g108 := car8 _ _ _ hn7 g107
      simp only [h_n] at happ8 accn9 hn9
      obtain ⟨H9, happ9, accvA, kpA, lowA, hnA⟩ := accv9.one_more (e := 28) (bs := 72) (ys := [.int .i64 ky, .str ty', vStrs ny, vXs ly]) (by omega) low9 (by decide) rfl four_flat (by omega)
      have accnA := accv9.other accn9 (by decide) kpA
      have accpA := accv9.beside accp9 apv kpA
      have natA : NamesAt H.n H9 ns vn := by
        rcases nat9 with h | h
        · exact .inl h
        · exact .inr (accv9.other h (by decide) kpA)
      have kpA' := accv9.keeps kp9' low kpA
      have carA : ∀ j cs tt, j < H7.n → H7.t.get j = some (.row cs 0 false tt) → H9.t.get j = some (.row cs 0 false tt) := fun j cs tt hj hg => accv9.row (by decide) kpA (car8 j cs tt hj hg)
      have g109 := carA _ _ _ hn7 g107
      have hn9' : H5.n < H9.n := by omega
      have lowB := lowA.put hn9' (ob := .row [.int .i64 5, .str (pct (b2 + 1)), vStrs [], vXs []] 0 false (some 28))
      have lowC := lowB.push (ob := .row [.int .i64 5, .str (pct (b2 + 1)), vStrs [], vXs []] 0 true none)
      have accnC := (accnA.put (by decide) g109 (ob := .row [.int .i64 5, .str (pct (b2 + 1)), vStrs [], vXs []] 0 false (some 28))).push lowB (ob := .row [.int .i64 5, .str (pct (b2 + 1)), vStrs [], vXs []] 0 true none)
      have accvC := (accvA.put (by decide) g109 (ob := .row [.int .i64 5, .str (pct (b2 + 1)), vStrs [], vXs []] 0 false (some 28))).push lowB (ob := .row [.int .i64 5, .str (pct (b2 + 1)), vStrs [], vXs []] 0 true none)
      have accpC := (accpA.put (by decide) g109 (ob := .row [.int .i64 5, .str (pct (b2 + 1)), vStrs [], vXs []] 0 false (some 28))).push lowB (ob := .row [.int .i64 5, .str (pct (b2 + 1)), vStrs [], vXs []] 0 true none)
      have kpC' := (kpA'.own low (j := H5.n) (by omega) hn9' (ob := .row [.int .i64 5, .str (pct (b2 + 1)), vStrs [], vXs []] 0 false (some 28))).pushed low (ob := .row [.int .i64 5, .str (pct (b2 + 1)), vStrs [], vXs []] 0 true none)
      obtain ⟨HD, happD, accpD, kpD, lowD, hnD⟩ := accpC.one_more (e := 28) (bs := 72) (ys := [.int .i64 5, .str (pct (b2 + 1)), vStrs [], vXs []]) (by simp only [h_n, h_nput]; omega) lowC (by decide) rfl four_flat (by omega)
      have accnD := accpC.other accnC (by decide) kpD
      have apvD : Apart pv (.slice (.new H8.n) 0 (ls.length + 1) (.gro 4)) := (accp9.fresh low9 (by omega)).symm
      have accvD := accpC.beside accvC apvD kpD
      have natD : NamesAt H.n HD ns vn := by
        rcases natA with h | h
        · exact .inl h
        · exact .inr (accpC.other ((h.put (by decide) g109 (ob := .row [.int .i64 5, .str (pct (b2 + 1)), vStrs [], vXs []] 0 false (some 28))).push lowB (ob := .row [.int .i64 5, .str (pct (b2 + 1)), vStrs [], vXs []] 0 true none)) (by decide) kpD)
      have kpD' := accpC.keeps kpC' low kpD
      have apvE := (accvC.fresh lowC (k := H9.n + 1) (o := 0) (m := i + 1) (c := .gro 4) (by simp only [h_n, h_nput]; omega)).symm
      have carD : ∀ j cs tt, j < H5.n → H7.t.get j = some (.row cs 0 false tt) → HD.t.get j = some (.row cs 0 false tt) := fun j cs tt hj hg =>
        accpC.row (by decide) kpD (by rw [h_get, if_neg (by simp only [h_nput]; omega), h_gput, if_neg (by omega)]; exact carA j cs tt (by omega) hg)
      simp only [h_n, h_nput] at happD accpD hnD
      have gkD := carD _ _ _ hk5 gk7
      have gE0 := carD _ _ _ (by omega) gd0
      have gE1 := carD _ _ _ (by omega) gd1
      have gE3 := carD _ _ _ hn5 gd3
      have gA3 := carA _ _ _ (by omega) gd3
      have hnD' : H.n + 3 < HD.n := by omega
      have lowE := lowD.put hnD' (ob := .row [.int .i64 k, .str t, vn, .slice (.new (H9.n + 1)) 0 (i + 1) (.gro 4)] 0 false (some 28))
      have done : ∀ fr', fr' 0 = .ptr (.new k0) 0 → fr' 3 = .ptr (.new H.n) 0 → fr' 4 = .ptr (.new (H.n + 1)) 0 → fr' 5 = .ptr (.new (H.n + 3)) 0 → fr' 6 = .int .i64 (lazyZ k t) → fr' 7 = .slice (.new (H7.n + 1 + 1)) 0 (ls.length + 1) (.gro 1) → fr' 8 = .slice (.new H8.n) 0 (ls.length + 1) (.gro 4) → fr' 9 = .int .i64 (i + 1 : Nat) →
          Gives (K' .normal fr' (HD.put (H.n + 3) (.row [.int .i64 k, .str t, vn, .slice (.new (H9.n + 1)) 0 (i + 1) (.gro 4)] 0 false (some 28)))) fun v0 H' => ∃ v H'', shutV v0 H' = some (v, H'') ∧ v = (bindAll (X.nrms l m 0 c).snd.fst (X.mk k t ns (X.nrms l m 0 c).fst)).v ∧ H''.t.get k0 = some (Obj.row [AV.str [37, 46], AV.int IntKind.i64 (X.nrms l m 0 c).snd.snd] 0 false ty) ∧ HKeep (only k0) H H'' := fun fr' q0 q3 q4 q5 q6 q7 q8 q9 => by
        refine hK _ _ ⟨_, _, _, ?_, ?_, ?_, ?_, apn9, apvE, lowE, kpD'.own low (by omega) hnD', by rw [h_nput]; exact hnD', ?_, q0, q3, q4, q5, q6, q7, q8, q9, by rw [h_gput, if_neg m3]; exact gE0, by rw [h_gput, if_neg m5]; exact gE1, by rw [h_gput, if_pos rfl]⟩
        · rw [hnt]; simp only [List.map_append, List.map_cons, List.map_nil, List.length_append, List.length_singleton, flat_snoc]; exact accnD.put (by decide) gE3
        · rw [hnt]; simp only [List.map_append, List.map_cons, List.map_nil, List.length_append, List.length_singleton, flat_snoc, X.cells_mk]; exact accvD.put (by decide) gE3
        · rw [hnt, flat_snoc, varX, X.cells_mk]; exact accpD.put (by decide) gE3
        · rcases natD with h | h
          · exact .inl h
          · exact .inr (h.put (by decide) gE3)
        · rw [hnt, h_gput, if_neg n3]; exact gkD
      have z7 : ¬ H5.n = H7.n := by omega
      have z7b : ¬ H5.n = H7.n + 1 := by omega
      have z7c : ¬ H.n + 3 = H5.n := by omega
      have z9 : ¬ H5.n = H9.n := by omega
      have z9b : ¬ H.n + 3 = H9.n := by omega
      have fz := accvA.flat
      simp -implicitDefEqProofs only [↓v_lenS, SB, POp.val, AOp.val, WOp.val, Lite.bin, intBin, strBin, eqv, eqMany, eq1, AV.asBool, AV.asInt, AV.asNat, AV.asPtr, AV.asStr, resVals, ResV.val, oneOr, wants, skipped, fillAt, putAt, capOf, optNat, bnd, Nat.reduceBEq, reduceIte, Nat.reduceAdd, Nat.reduceLeDiff, Nat.reduceEqDiff, Nat.reduceSub, Nat.reduceMul, Nat.reduceDiv, SOper.again, same, sameBlk, sameCap, Nat.reduceBneDiff, s_draw2, s_pair, k_pair, asunder, SOper.into, Bool.not_false, Bool.not_true, CL, XS, r0, r3, r4, r5, r6, r7, r8, r9, g107, g108, g109, gA3, gE3, z7, z7b, z7c, z9, z9b, k_taken, happ8, happ9, happD, e25, hw, fvn]
      refine done _ ?_ ?_ ?_ ?_ ?_ ?_ ?_ ?_ <;> simp -implicitDefEqProofs only [↓v_lenS, SB, POp.val, AOp.val, WOp.val, Lite.bin, intBin, strBin, eqv, eqMany, eq1, AV.asBool, AV.asInt, AV.asNat, AV.asPtr, AV.asStr, resVals, ResV.val, oneOr, wants, skipped, fillAt, putAt, capOf, optNat, bnd, Nat.reduceBEq, reduceIte, Nat.reduceAdd, Nat.reduceLeDiff, Nat.reduceEqDiff, Nat.reduceSub, Nat.reduceMul, Nat.reduceDiv, SOper.again, same, sameBlk, sameCap, Nat.reduceBneDiff, s_draw2, s_pair, k_pair, asunder, SOper.into, Bool.not_false, Bool.not_true, r0, r3, r4, r5, r6, r7, r8, r9]
    · rw [if_neg hcase] at hnt hle1
      have low7 := low6.push (ob := .row [.int .i64 ky, .str ty', vStrs ny, vXs ly] 0 true none)
      have accp7 := accp6.push low6 (ob := .row [.int .i64 ky, .str ty', vStrs ny, vXs ly] 0 true none)
      obtain ⟨H8, happ8, accp8, kp8, low8, hn8⟩ := accp7.one_more (e := 28) (bs := 72) (ys := [.int .i64 ky, .str ty', vStrs ny, vXs ly]) (by rw [h_n]; omega) low7 (by decide) rfl four_flat (by omega)
      have accv8 := accp7.beside (accv6.push low6 (ob := .row [.int .i64 ky, .str ty', vStrs ny, vXs ly] 0 true none)) apv.symm kp8
      have accn8 := accp7.other (accn6.push low6 (ob := .row [.int .i64 ky, .str ty', vStrs ny, vXs ly] 0 true none)) (by decide) kp8
      have nat8 : NamesAt H.n H8 ns vn := by
        rcases nat6 with h | h
        · exact .inl h
        · exact .inr (accp7.other (h.push low6 (ob := .row [.int .i64 ky, .str ty', vStrs ny, vXs ly] 0 true none)) (by decide) kp8)
      have apv8 := (accv6.fresh low6 (k := H6.n + 1) (o := 0) (m := i + 1) (c := .gro 4) (by omega)).symm
      have car8 : ∀ j cs tt, j < H5.n → H6.t.get j = some (.row cs 0 false tt) → H8.t.get j = some (.row cs 0 false tt) := fun j cs tt hj hg =>
        accp7.row (by decide) kp8 (by rw [h_get, if_neg (by omega)]; exact hg)
      have kp8' := accp7.keeps (kp6.pushed low (ob := .row [.int .i64 ky, .str ty', vStrs ny, vXs ly] 0 true none)) low kp8
      have gk8 := car8 _ _ _ hk5 gk6
      have gd0 := car8 _ _ _ (by omega) gc0
      have gd1 := car8 _ _ _ (by omega) gc1
      have gd3 := car8 _ _ _ hn5 gc3
      rw [h_n] at happ8 accp8 hn8
      have hn8' : H.n + 3 < H8.n := by omega
      have low9 := low8.put hn8' (ob := .row [.int .i64 k, .str t, vn, .slice (.new (H6.n + 1)) 0 (i + 1) (.gro 4)] 0 false (some 28))
      have done : ∀ fr', fr' 0 = .ptr (.new k0) 0 → fr' 3 = .ptr (.new H.n) 0 → fr' 4 = .ptr (.new (H.n + 1)) 0 → fr' 5 = .ptr (.new (H.n + 3)) 0 → fr' 6 = .int .i64 (lazyZ k t) → fr' 7 = nv → fr' 8 = vv → fr' 9 = .int .i64 (i + 1 : Nat) →
          Gives (K' .normal fr' (H8.put (H.n + 3) (.row [.int .i64 k, .str t, vn, .slice (.new (H6.n + 1)) 0 (i + 1) (.gro 4)] 0 false (some 28)))) fun v0 H' => ∃ v H'', shutV v0 H' = some (v, H'') ∧ v = (bindAll (X.nrms l m 0 c).snd.fst (X.mk k t ns (X.nrms l m 0 c).fst)).v ∧ H''.t.get k0 = some (Obj.row [AV.str [37, 46], AV.int IntKind.i64 (X.nrms l m 0 c).snd.snd] 0 false ty) ∧ HKeep (only k0) H H'' := fun fr' q0 q3 q4 q5 q6 q7 q8 q9 => by
        refine hK _ _ ⟨nv, vv, _, ?_, ?_, ?_, ?_, apn, apv8, low9, kp8'.own low (by omega) hn8', by rw [h_nput]; exact hn8', ?_, q0, q3, q4, q5, q6, q7, q8, q9, by rw [h_gput, if_neg m3]; exact gd0, by rw [h_gput, if_neg m5]; exact gd1, by rw [h_gput, if_pos rfl]⟩
        · rw [hnt]; exact accn8.put (by decide) gd3
        · rw [hnt]; exact accv8.put (by decide) gd3
        · rw [hnt, flat_snoc, X.cells_mk]; exact accp8.put (by decide) gd3
        · rcases nat8 with h | h
          · exact .inl h
          · exact .inr (h.put (by decide) gd3)
        · rw [hnt, h_gput, if_neg n3]; exact gk8
      rcases hz with ⟨z, rfl, hz⟩ | ⟨rfl, hz⟩
      · rw [hz] at r6 done
        by_cases hmi : m ≤ i
        · have hat : (X.mk ky ty' ny ly).atom = true := by
            cases h : (X.mk ky ty' ny ly).atom with
            | true => rfl
            | false => exact absurd ⟨hmi, h⟩ hcase
          rw [hat] at ey
          have hmi' : (m : Int) ≤ (i : Int) := by omega
          simp -implicitDefEqProofs only [↓v_lenS, SB, POp.val, AOp.val, WOp.val, Lite.bin, intBin, strBin, eqv, eqMany, eq1, AV.asBool, AV.asInt, AV.asNat, AV.asPtr, AV.asStr, resVals, ResV.val, oneOr, wants, skipped, fillAt, putAt, capOf, optNat, bnd, Nat.reduceBEq, reduceIte, Nat.reduceAdd, Nat.reduceLeDiff, Nat.reduceEqDiff, Nat.reduceSub, Nat.reduceMul, Nat.reduceDiv, SOper.again, same, sameBlk, sameCap, Nat.reduceBneDiff, s_draw2, s_pair, k_pair, asunder, SOper.into, Bool.not_false, Bool.not_true, CL, XS, r0, r3, r4, r5, r6, r7, r8, r9, hz, ge_iff_le, Int.natCast_nonneg, hmi', g10, gc3, ey, k_taken, happ8, hw, fvn, gd3]
          refine done _ ?_ ?_ ?_ ?_ ?_ ?_ ?_ ?_ <;> simp -implicitDefEqProofs only [↓v_lenS, SB, POp.val, AOp.val, WOp.val, Lite.bin, intBin, strBin, eqv, eqMany, eq1, AV.asBool, AV.asInt, AV.asNat, AV.asPtr, AV.asStr, resVals, ResV.val, oneOr, wants, skipped, fillAt, putAt, capOf, optNat, bnd, Nat.reduceBEq, reduceIte, Nat.reduceAdd, Nat.reduceLeDiff, Nat.reduceEqDiff, Nat.reduceSub, Nat.reduceMul, Nat.reduceDiv, SOper.again, same, sameBlk, sameCap, Nat.reduceBneDiff, s_draw2, s_pair, k_pair, asunder, SOper.into, Bool.not_false, Bool.not_true, r0, r3, r4, r5, r6, r7, r8, r9]
        · have hmi' : ¬ (m : Int) ≤ (i : Int) := by omega
          simp -implicitDefEqProofs only [↓v_lenS, SB, POp.val, AOp.val, WOp.val, Lite.bin, intBin, strBin, eqv, eqMany, eq1, AV.asBool, AV.asInt, AV.asNat, AV.asPtr, AV.asStr, resVals, ResV.val, oneOr, wants, skipped, fillAt, putAt, capOf, optNat, bnd, Nat.reduceBEq, reduceIte, Nat.reduceAdd, Nat.reduceLeDiff, Nat.reduceEqDiff, Nat.reduceSub, Nat.reduceMul, Nat.reduceDiv, SOper.again, same, sameBlk, sameCap, Nat.reduceBneDiff, s_draw2, s_pair, k_pair, asunder, SOper.into, Bool.not_false, Bool.not_true, CL, XS, r0, r3, r4, r5, r6, r7, r8, r9, hz, ge_iff_le, Int.natCast_nonneg, hmi', g10, gc3, ey, k_taken, happ8, hw, fvn, gd3]
          refine done _ ?_ ?_ ?_ ?_ ?_ ?_ ?_ ?_ <;> simp -implicitDefEqProofs only [↓v_lenS, SB, POp.val, AOp.val, WOp.val, Lite.bin, intBin, strBin, eqv, eqMany, eq1, AV.asBool, AV.asInt, AV.asNat, AV.asPtr, AV.asStr, resVals, ResV.val, oneOr, wants, skipped, fillAt, putAt, capOf, optNat, bnd, Nat.reduceBEq, reduceIte, Nat.reduceAdd, Nat.reduceLeDiff, Nat.reduceEqDiff, Nat.reduceSub, Nat.reduceMul, Nat.reduceDiv, SOper.again, same, sameBlk, sameCap, Nat.reduceBneDiff, s_draw2, s_pair, k_pair, asunder, SOper.into, Bool.not_false, Bool.not_true, r0, r3, r4, r5, r6, r7, r8, r9]
      · rw [hz] at r6 done
        have hn0 : ¬ (-1 : Int) ≥ 0 := by omega
        simp -implicitDefEqProofs only [↓v_lenS, SB, POp.val, AOp.val, WOp.val, Lite.bin, intBin, strBin, eqv, eqMany, eq1, AV.asBool, AV.asInt, AV.asNat, AV.asPtr, AV.asStr, resVals, ResV.val, oneOr, wants, skipped, fillAt, putAt, capOf, optNat, bnd, Nat.reduceBEq, reduceIte, Nat.reduceAdd, Nat.reduceLeDiff, Nat.reduceEqDiff, Nat.reduceSub, Nat.reduceMul, Nat.reduceDiv, SOper.again, same, sameBlk, sameCap, Nat.reduceBneDiff, s_draw2, s_pair, k_pair, asunder, SOper.into, Bool.not_false, Bool.not_true, CL, XS, r0, r3, r4, r5, r6, r7, r8, r9, hz, hn0, g10, gc3, ey, k_taken, happ8, hw, fvn, gd3]
        refine done _ ?_ ?_ ?_ ?_ ?_ ?_ ?_ ?_ <;> simp -implicitDefEqProofs only [↓v_lenS, SB, POp.val, AOp.val, WOp.val, Lite.bin, intBin, strBin, eqv, eqMany, eq1, AV.asBool, AV.asInt, AV.asNat, AV.asPtr, AV.asStr, resVals, ResV.val, oneOr, wants, skipped, fillAt, putAt, capOf, optNat, bnd, Nat.reduceBEq, reduceIte, Nat.reduceAdd, Nat.reduceLeDiff, Nat.reduceEqDiff, Nat.reduceSub, Nat.reduceMul, Nat.reduceDiv, SOper.again, same, sameBlk, sameCap, Nat.reduceBneDiff, s_draw2, s_pair, k_pair, asunder, SOper.into, Bool.not_false, Bool.not_true, r0, r3, r4, r5, r6, r7, r8, r9]
  · rintro fr H2 K' ⟨nv, vv, pv, accn, accv, accp, nat, apn, apv, low2, kp, hn2, gk, r0, r3, r4, r5, r6, r7, r8, r9, gb0, gb1, gb3⟩ hKe hKr
    rw [List.take_length] at accn accv accp gk
    have hsl := nrms_lets_len l m 0 c
    generalize X.nrms l m 0 c = S at *
    obtain ⟨ps, ls, b⟩ := S
    simp only [] at accn accv accp gk hsl hc bdn ⊢
    have hL : ls.length ≤ 60 := by omega
    have ln := accn.len
    simp -implicitDefEqProofs only [c39_l0, ↓v_lenS, SB, POp.val, AOp.val, WOp.val, Lite.bin, intBin, strBin, eqv, eqMany, eq1, AV.asBool, AV.asInt, AV.asNat, AV.asPtr, AV.asStr, resVals, ResV.val, oneOr, wants, skipped, fillAt, putAt, capOf, optNat, bnd, Nat.reduceBEq, reduceIte, Nat.reduceAdd, Nat.reduceLeDiff, Nat.reduceEqDiff, Nat.reduceSub, Nat.reduceMul, Nat.reduceDiv, SOper.again, same, sameBlk, sameCap, Nat.reduceBneDiff, s_draw2, s_pair, k_pair, asunder, SOper.into, Bool.not_false, Bool.not_true, CL, XS, r0, r3, r4, r5, r6, r7, r8, r9, gb0, gb1, gb3, Int.lt_irrefl, hKe, ln]
    have pre : ∀ (r : Nat) (H5 : Heap) (c0 c1 c2 c3 : AV), HLow H5 → ((r = 0 ∧ c0 = .int .i64 k ∧ c1 = .str t ∧ c2 = vn ∧ c3 = pv ∧ NamesAt H.n H5 ns vn ∧ Acc H.n H5 28 4 l.length (ps.flatMap X.cells) pv) ∨ (0 < r ∧ [c0, c1, c2, c3] = (bindAll (ls.drop (ls.length - r)) (.mk k t ns ps)).cells)) →
        ∃ d0 d1 d2 d3 H6 H7, shutC 64 c0 H5 = some (d0, H5) ∧ shutC 64 c1 H5 = some (d1, H5) ∧ shutC 64 c2 H5 = some (d2, H6) ∧ shutC 64 c3 H6 = some (d3, H7) ∧ [d0, d1, d2, d3] = (bindAll (ls.drop (ls.length - r)) (.mk k t ns ps)).cells ∧ HKeep (fun j o => blk vn j o ∨ blk pv j o) H5 H7 ∧ HLow H7 := by
      intro r H5 c0 c1 c2 c3 low5 h
      rcases h with ⟨rfl, rfl, rfl, rfl, rfl, h1, h2⟩ | ⟨hr, h⟩
      · obtain ⟨H6, e1, k1⟩ := h1.shut 63
        have h2' : Acc H.n H6 28 4 l.length (ps.flatMap X.cells) c3 := by
          rcases h1 with ⟨_, rfl⟩ | h1
          · exact h2.kept k1 fun j _ _ => by rintro ⟨_, _, _, e⟩; cases e
          · exact h1.other h2 (by decide) k1
        obtain ⟨H7, e2, k2⟩ := h2'.shut (d := 63) (by decide) (Still.flat X.still _)
        have hl7 := k2.low (k1.low low5)
        have hlen : ps.length = l.length := by
          rcases h2 with ⟨h3, h4, _⟩ | ⟨_, h4, _⟩
          · cases ps with
            | nil => exact h3.symm
            | cons x ps => have := flat_len X.cells_len (x :: ps); rw [h4] at this; simp at this
          · have := flat_len X.cells_len ps; omega
        refine ⟨_, _, _, _, H6, H7, shutC_int, shutC_str, e1, e2, ?_, (k1.mono fun j o _ h => .inl h).trans (k2.mono fun j o _ h => .inr h), hl7⟩
        rw [Nat.sub_zero, List.drop_length]
        show _ = (X.mk k t ns ps).cells
        rw [X.cells_mk, ← hlen, L_vXs]
      · have hst := X.still (bindAll (ls.drop (ls.length - r)) (.mk k t ns ps))
        rw [← h] at hst
        exact ⟨c0, c1, c2, c3, H5, H5, hst c0 (by simp) _ _, hst c1 (by simp) _ _, hst c2 (by simp) _ _, hst c3 (by simp) _ _, h, HKeep.refl, low5⟩
    have bvn : ∀ j o, blk vn j o → H.n ≤ j ∧ ∃ cs, H2.t.get j = some (.row cs 1 false (some 9)) := fun j o ⟨o1, n1, c1, e⟩ => by
      rcases nat with ⟨_, h⟩ | h | ⟨_, _, k', h3, h4, h5⟩
      · rw [h] at e; cases e
      · obtain ⟨_, _, h⟩ := h; rw [h] at e; cases e
      · rw [h3] at e
        simp only [AV.slice.injEq, Blk.new.injEq] at e
        obtain ⟨rfl, _⟩ := e
        exact ⟨h4, _, h5⟩
    have bpv : ∀ j o, blk pv j o → H.n ≤ j ∧ ∃ cs, H2.t.get j = some (.row cs 4 false (some 28)) := fun j o ⟨o1, n1, c1, e⟩ => by
      rcases accp with ⟨_, _, h⟩ | ⟨_, _, k', h3, h4, h5⟩
      · rw [h] at e; cases e
      · rw [h3] at e
        simp only [AV.slice.injEq, Blk.new.injEq] at e
        obtain ⟨rfl, _⟩ := e
        exact ⟨h4, _, h5⟩
    have nb : ∀ j cs tt o, H2.t.get j = some (.row cs 0 false tt) → ¬ (blk vn j o ∨ blk pv j o) := fun j cs tt o hg hb => by
      rcases hb with hb | hb
      · obtain ⟨_, cs', h⟩ := bvn j o hb
        rw [hg] at h; cases h
      · obtain ⟨_, cs', h⟩ := bpv j o hb
        rw [hg] at h; cases h
    have nbn : ∀ j o, blk nv j o → ¬ (blk vn j o ∨ blk pv j o) := fun j o hb hc => by
      have hg : ∃ cs, H2.t.get j = some (.row cs 1 false (some 9)) := by
        obtain ⟨o1, n1, c1, e⟩ := hb
        rcases accn with ⟨_, _, h⟩ | ⟨_, _, k', h3, h4, h5⟩
        · rw [h] at e; cases e
        · rw [h3] at e
          simp only [AV.slice.injEq, Blk.new.injEq] at e
          obtain ⟨rfl, _⟩ := e
          exact ⟨_, h5⟩
      obtain ⟨o1, n1, c1, e⟩ := hb
      rcases hc with ⟨o2, n2, c2, e2⟩ | hc
      · exact apn _ _ _ _ _ _ _ _ e e2 rfl
      · obtain ⟨_, cs', h⟩ := bpv j o hc
        obtain ⟨cs, hg⟩ := hg
        rw [hg] at h; cases h
    have nbv : ∀ j o, blk vv j o → ¬ (blk vn j o ∨ blk pv j o) := fun j o hb hc => by
      have hg : ∃ cs, H2.t.get j = some (.row cs 4 false (some 28)) := by
        obtain ⟨o1, n1, c1, e⟩ := hb
        rcases accv with ⟨_, _, h⟩ | ⟨_, _, k', h3, h4, h5⟩
        · rw [h] at e; cases e
        · rw [h3] at e
          simp only [AV.slice.injEq, Blk.new.injEq] at e
          obtain ⟨rfl, _⟩ := e
          exact ⟨_, h5⟩
      obtain ⟨o1, n1, c1, e⟩ := hb
      rcases hc with hc | ⟨o2, n2, c2, e2⟩
      · obtain ⟨_, cs', h⟩ := bvn j o hc
        obtain ⟨cs, hg⟩ := hg
        rw [hg] at h; cases h
      · exact apv _ _ _ _ _ _ _ _ e e2 rfl
    refine loop_rounds ls.length (fun r fr H5 => ∃ c0 c1 c2 c3, ((r = 0 ∧ c0 = .int .i64 k ∧ c1 = .str t ∧ c2 = vn ∧ c3 = pv ∧ NamesAt H.n H5 ns vn ∧ Acc H.n H5 28 4 l.length (ps.flatMap X.cells) pv) ∨ (0 < r ∧ [c0, c1, c2, c3] = (bindAll (ls.drop (ls.length - r)) (.mk k t ns ps)).cells)) ∧
      c0.flat = true ∧ c1.flat = true ∧ c2.flat = true ∧ c3.flat = true ∧ Acc H.n H5 9 1 ls.length ((ls.map Prod.fst).flatMap str1) nv ∧ Acc H.n H5 28 4 ls.length ((ls.map Prod.snd).flatMap X.cells) vv ∧ HLow H5 ∧ HKeep (only k0) H H5 ∧ H5.t.get k0 = some (.row [.str [37, 46], .int .i64 b] 0 false ty) ∧
      H5.t.get (H.n + 1) = some (.row [.int .i64 0, .str [], .nils, .nils] 0 false (some 28)) ∧ H5.t.get (H.n + 3) = some (.row [c0, c1, c2, c3] 0 false (some 28)) ∧ fr 4 = .ptr (.new (H.n + 1)) 0 ∧ fr 5 = .ptr (.new (H.n + 3)) 0 ∧ fr 7 = nv ∧ fr 8 = vv ∧ fr 12 = .int .i64 ((ls.length - r : Nat) : Int)) ?_ ?_ n 0 _ _ (by omega) (by omega) ?_
    · rintro r fr H5 K2 hr ⟨c0, c1, c2, c3, hsh, l0, l1, l2, l3, an5, av5, low5, kp5, gk5, ge1, ge3, q4, q5, q7, q8, q12⟩ hKe2 hKr2 hK2
      obtain ⟨d0, d1, d2, d3, H6, H7, s0, s1, s2, s3, hd, k7, low7⟩ := pre r H5 c0 c1 c2 c3 low5 hsh
      obtain ⟨j, hj⟩ : ∃ j, ls.length - r = j + 1 := ⟨ls.length - r - 1, by omega⟩
      have hjl : j < ls.length := by omega
      have hj2 : ls.length - (r + 1) = j := by omega
      rw [hj] at q12 hd
      obtain ⟨p, hp⟩ : ∃ p, ls[j]? = some p := ⟨ls[j], List.getElem?_eq_getElem hjl⟩
      have hdrop : ls.drop j = p :: ls.drop (j + 1) := by
        rw [List.drop_eq_getElem_cons hjl, List.getElem?_eq_getElem hjl] at *
        simp only [Option.some.injEq] at hp
        rw [hp]
      have e27 := bdn p (List.mem_of_getElem? hp) (j + 1) (List.mem_range.2 (by omega))
      rw [X.v, X.v, ← hd] at e27
      have hbc : (bindAll (ls.drop j) (.mk k t ns ps)).cells = (bindX p.1 p.2 (bindAll (ls.drop (j + 1)) (.mk k t ns ps))).cells := by rw [hdrop]; rfl
      generalize bindAll (ls.drop (j + 1)) (.mk k t ns ps) = cur at *
      have an7 := an5.keep (H' := H7) fun i o hb hg => by rw [hg]; exact k7.get _ _ hg (nbn i _ hb)
      have av7 := av5.keep (H' := H7) fun i o hb hg => by rw [hg]; exact k7.get _ _ hg (nbv i _ hb)
      have gk7 := k7.get _ _ gk5 (nb _ _ _ _ gk)
      have gf1 := k7.get _ _ ge1 (nb _ _ _ _ gb1)
      have gf3 := k7.get _ _ ge3 (nb _ _ _ _ gb3)
      have kp7 : HKeep (only k0) H H7 := ⟨Nat.le_trans kp5.n k7.n, fun i o hi ho => k7.get _ _ (kp5.get i o hi ho) fun hb => by
          have := low.lt hi
          rcases hb with hb | hb
          · have := (bvn i o hb).1; omega
          · have := (bpv i o hb).1; omega, fun _ => low7⟩
      have hn7 := low7.lt gf3
      have low8 := low7.put hn7 (ob := .row [.int .i64 9, .str [], vStrs [p.1], vXs [p.2, cur]] 0 false (some 28))
      obtain ⟨kn, hkn, gkn⟩ : ∃ kn, nv = .slice (.new kn) 0 ls.length (.gro 1) ∧ H5.t.get kn = some (.row ((ls.map Prod.fst).flatMap str1) 1 false (some 9)) := by
        rcases an5 with ⟨h, _, _⟩ | ⟨_, _, kn, h1, _, h2⟩
        · omega
        · exact ⟨kn, h1, h2⟩
      obtain ⟨kv, hkv, gkv⟩ : ∃ kv, vv = .slice (.new kv) 0 ls.length (.gro 4) ∧ H5.t.get kv = some (.row ((ls.map Prod.snd).flatMap X.cells) 4 false (some 28)) := by
        rcases av5 with ⟨h, _, _⟩ | ⟨_, _, kn, h1, _, h2⟩
        · omega
        · exact ⟨kn, h1, h2⟩
      have q7' := q7
      have q8' := q8
      rw [hkn] at q7'
      rw [hkv] at q8'
      have hgn : ((ls.map Prod.fst).flatMap str1)[j]? = some (.str p.1) := by
        have h1 := flat_at str1_len (ls.map Prod.fst) j
        rw [List.getElem?_map, hp] at h1
        simp only [Option.map_some, Nat.mul_one] at h1
        have h2 := congrArg (fun z => z[0]?) h1
        simp only [List.getElem?_take, List.getElem?_drop] at h2
        simpa [str1] using h2
      have hgv : (((ls.map Prod.snd).flatMap X.cells).drop (j * 4)).take 4 = p.2.cells := by
        have h1 := flat_at X.cells_len (ls.map Prod.snd) j
        rw [List.getElem?_map, hp] at h1
        exact h1
      obtain ⟨s, y⟩ := p
      obtain ⟨ky, ty', ny, ly⟩ := y
      simp only [bindX, X.cells_mk] at e27 hgv hgn hbc
      have hpos : ((j + 1 : Nat) : Int) > 0 := by omega
      have hw1 : IntKind.i64.wrap (((j + 1 : Nat) : Int) - 1) = (j : Int) := by rw [wrap64 (by omega) (by omega)]; omega
      simp -implicitDefEqProofs only [c39_l1, ↓v_lenS, SB, POp.val, AOp.val, WOp.val, Lite.bin, intBin, strBin, eqv, eqMany, eq1, AV.asBool, AV.asInt, AV.asNat, AV.asPtr, AV.asStr, resVals, ResV.val, oneOr, wants, skipped, fillAt, putAt, capOf, optNat, bnd, Nat.reduceBEq, reduceIte, Nat.reduceAdd, Nat.reduceLeDiff, Nat.reduceEqDiff, Nat.reduceSub, Nat.reduceMul, Nat.reduceDiv, SOper.again, same, sameBlk, sameCap, Nat.reduceBneDiff, s_draw2, s_pair, k_pair, asunder, SOper.into, Bool.not_false, Bool.not_true, CL, XS, q4, q5, q7', q8', q12, gkn, gkv, ge1, ge3, hpos, hw1, hjl, Nat.mul_one, hgn, hgv, s0, s1, s2, s3, e27, gf3]
      refine hK2 _ _ ⟨_, _, _, _, .inr ⟨by omega, ?_⟩, rfl, rfl, fl_vStrs, fl_vXs, an7.put (by decide) gf3, av7.put (by decide) gf3, low8, kp7.own low (by omega) hn7, by rw [h_gput, if_neg n3]; exact gk7, by rw [h_gput, if_neg m5]; exact gf1, by rw [h_gput, if_pos rfl], ?_⟩
      · rw [hj2, hbc]
      · simp -implicitDefEqProofs only [↓v_lenS, SB, POp.val, AOp.val, WOp.val, Lite.bin, intBin, strBin, eqv, eqMany, eq1, AV.asBool, AV.asInt, AV.asNat, AV.asPtr, AV.asStr, resVals, ResV.val, oneOr, wants, skipped, fillAt, putAt, capOf, optNat, bnd, Nat.reduceBEq, reduceIte, Nat.reduceAdd, Nat.reduceLeDiff, Nat.reduceEqDiff, Nat.reduceSub, Nat.reduceMul, Nat.reduceDiv, SOper.again, same, sameBlk, sameCap, Nat.reduceBneDiff, s_draw2, s_pair, k_pair, asunder, SOper.into, Bool.not_false, Bool.not_true, q4, q5, q7, q8, hj2]
    · rintro fr H5 K2 ⟨c0, c1, c2, c3, hsh, l0, l1, l2, l3, an5, av5, low5, kp5, gk5, ge1, ge3, q4, q5, q7, q8, q12⟩ hKe2 hKr2
      rw [Nat.sub_self] at q12
      have hneg : ¬ ((0 : Nat) : Int) > 0 := by omega
      have hn1 := low5.lt ge1
      have low6 := low5.put hn1 (ob := .row [c0, c1, c2, c3] 0 false (some 28))
      obtain ⟨d0, d1, d2, d3, H6, H7, s0, s1, s2, s3, hd, k7, low7⟩ := pre ls.length _ c0 c1 c2 c3 low6 (hsh.imp_left fun ⟨h1, h2, h3, h4, h5, h6, h7⟩ => ⟨h1, h2, h3, h4, h5, h6.imp_right fun h => h.put (by decide) ge1, h7.put (by decide) ge1⟩)
      rw [Nat.sub_self, List.drop_zero] at hd
      have hsv : shutV (.agg [c0, c1, c2, c3]) (H5.put (H.n + 1) (.row [c0, c1, c2, c3] 0 false (some 28))) = some ((bindAll ls (.mk k t ns ps)).v, H7) := by
        rw [shutV_agg, X.v, ← hd]
        simp only [mapHM_cons, mapHM_nil, s0, s1, s2, s3, Option.bind_some, Option.map_some]
      simp -implicitDefEqProofs only [c39_l1, ↓v_lenS, SB, POp.val, AOp.val, WOp.val, Lite.bin, intBin, strBin, eqv, eqMany, eq1, AV.asBool, AV.asInt, AV.asNat, AV.asPtr, AV.asStr, resVals, ResV.val, oneOr, wants, skipped, fillAt, putAt, capOf, optNat, bnd, Nat.reduceBEq, reduceIte, Nat.reduceAdd, Nat.reduceLeDiff, Nat.reduceEqDiff, Nat.reduceSub, Nat.reduceMul, Nat.reduceDiv, SOper.again, same, sameBlk, sameCap, Nat.reduceBneDiff, s_draw2, s_pair, k_pair, asunder, SOper.into, Bool.not_false, Bool.not_true, CL, XS, q4, q5, q7, q8, q12, ge1, ge3, hneg, hKe2, l0, l1, l2, l3, gives_ret]
      refine ⟨_, _, hsv, rfl, ?_, ?_⟩
      · exact k7.get _ _ (by rw [h_gput, if_neg n1]; exact gk5) (nb _ _ _ _ gk)
      · have k6 := kp5.own low (j := H.n + 1) (by omega) hn1 (ob := .row [c0, c1, c2, c3] 0 false (some 28))
        exact ⟨Nat.le_trans k6.n k7.n, fun j o hj ho => k7.get _ _ (k6.get j o hj ho) fun hb => by
          have := low.lt hj
          rcases hb with hb | hb
          · have := (bvn j o hb).1; omega
          · have := (bpv j o hb).1; omega, fun _ => low7⟩
    · refine ⟨_, _, _, _, .inl ⟨rfl, rfl, rfl, rfl, rfl, nat, accp⟩, rfl, rfl, nat.flat, accp.flat, accn, accv, low2, kp, gk, gb1, gb3, ?_⟩
      simp -implicitDefEqProofs only [↓v_lenS, SB, POp.val, AOp.val, WOp.val, Lite.bin, intBin, strBin, eqv, eqMany, eq1, AV.asBool, AV.asInt, AV.asNat, AV.asPtr, AV.asStr, resVals, ResV.val, oneOr, wants, skipped, fillAt, putAt, capOf, optNat, bnd, Nat.reduceBEq, reduceIte, Nat.reduceAdd, Nat.reduceLeDiff, Nat.reduceEqDiff, Nat.reduceSub, Nat.reduceMul, Nat.reduceDiv, SOper.again, same, sameBlk, sameCap, Nat.reduceBneDiff, s_draw2, s_pair, k_pair, asunder, SOper.into, Bool.not_false, Bool.not_true, r4, r5, r7, r8]
      rfl
  · refine ⟨.nils, .nils, .nils, ?_, ?_, ?_, nat2.weak (by omega), Apart.nils, Apart.nils, low1.put hn1', kpa.own low (by omega) hn1', by rw [h_nput]; exact hn1', ?_⟩
    · rw [List.take_zero, X.nrms]; exact Acc.nil
    · rw [List.take_zero, X.nrms]; exact Acc.nil
    · rw [List.take_zero, X.nrms]; exact Acc.nil
    · simp -implicitDefEqProofs only [↓v_lenS, SB, POp.val, AOp.val, WOp.val, Lite.bin, intBin, strBin, eqv, eqMany, eq1, AV.asBool, AV.asInt, AV.asNat, AV.asPtr, AV.asStr, resVals, ResV.val, oneOr, wants, skipped, fillAt, putAt, capOf, optNat, bnd, Nat.reduceBEq, reduceIte, Nat.reduceAdd, Nat.reduceLeDiff, Nat.reduceEqDiff, Nat.reduceSub, Nat.reduceMul, Nat.reduceDiv, SOper.again, same, sameBlk, sameCap, Nat.reduceBneDiff, s_draw2, s_pair, k_pair, asunder, SOper.into, Bool.not_false, Bool.not_true, List.take_zero, X.nrms, ek, n3, e0, e1, e3, m3, m5]
      rfl

end Go.Lite

/-
  The document's Norm.
-/
namespace Go.Lite
open Go Go.Proofs
set_option maxRecDepth 100000
set_option linter.unusedSimpArgs false
set_option linter.unusedVariables false

theorem norm17 (x : X) (hf : x.fit) (hc : (x.nrm 0).2 < 100) : Ret P3 17 [x.v] (x.nrm 0).1.v := by
  refine Ret.of rfl (code17 _ _) rfl rfl (fun H => by simp -implicitDefEqProofs only [mapHM_nil, mapHM_cons, X.shut, Option.bind_some, Option.map_some]) ?_
  refine (norm39 x hf 0 hc).mono fun n e H => ?_
  obtain ⟨k, t, ns, l⟩ := x
  have e := e ((((H.bare.push (.row [.int .i64 k, .str t, vStrs ns, vXs l] 0 false (some 28))).push (.row [.int .i64 0, .str [], .nils, .nils] 0 false (some 28))).push (.row [.str [37, 46], .int .i64 0] 0 false (some 64)))) 2 (some 64) (HLow.bare.push.push.push) (by simp [h_get, h_n, h_nbare])
  generalize hR : (X.mk k t ns l).nrm 0 = R at *
  obtain ⟨y, c⟩ := R
  obtain ⟨ky, ty, ny, ly⟩ := y
  simp only [X.v_mk] at e
  simp -implicitDefEqProofs only [c17, ↓v_lenS, SB, POp.val, AOp.val, WOp.val, Lite.bin, intBin, strBin, eqv, eqMany, eq1, AV.asBool, AV.asInt, AV.asNat, AV.asPtr, AV.asStr, resVals, ResV.val, oneOr, wants, skipped, fillAt, putAt, capOf, optNat, bnd, Nat.reduceBEq, reduceIte, Nat.reduceAdd, Nat.reduceLeDiff, Nat.reduceEqDiff, Nat.reduceSub, Nat.reduceMul, Nat.reduceDiv, SOper.again, same, sameBlk, sameCap, Nat.reduceBneDiff, s_draw2, s_pair, k_pair, asunder, SOper.into, Bool.not_false, Bool.not_true, CL, XS]
  refine gives_call e ?_
  rintro w H5 ⟨rfl, gk5, kp5⟩
  have g1 := kp5.get 1 (.row [.int .i64 0, .str [], .nils, .nils] 0 false (some 28)) (by simp [h_get, h_n, h_nbare]) (only_row (by decide))
  simp -implicitDefEqProofs only [↓v_lenS, SB, POp.val, AOp.val, WOp.val, Lite.bin, intBin, strBin, eqv, eqMany, eq1, AV.asBool, AV.asInt, AV.asNat, AV.asPtr, AV.asStr, resVals, ResV.val, oneOr, wants, skipped, fillAt, putAt, capOf, optNat, bnd, Nat.reduceBEq, reduceIte, Nat.reduceAdd, Nat.reduceLeDiff, Nat.reduceEqDiff, Nat.reduceSub, Nat.reduceMul, Nat.reduceDiv, SOper.again, same, sameBlk, sameCap, Nat.reduceBneDiff, s_draw2, s_pair, k_pair, asunder, SOper.into, Bool.not_false, Bool.not_true, CL, XS, g1, Ends, gives_ret]
  exact ⟨_, rfl⟩

end Go.Lite

/-
  What norm does, as laws of terms: it comes to what Is; what Is stays.
-/
namespace Go.Lite
open Go Go.Proofs
set_option maxRecDepth 100000
set_option linter.unusedSimpArgs false
set_option linter.unusedVariables false

theorem varX_is (s : Str) : (varX s).is = true ∧ (varX s).atom = true := by
  constructor
  · simp [varX, X.is, X.iss]
  · rfl

theorem bindAll_is (l : List (Str × X)) (e : X) (hl : ∀ p ∈ l, p.2.is = true) (he : e.is = true) : (bindAll l e).is = true := by
  induction l with
  | nil => exact he
  | cons p l ih =>
    have h1 := ih fun q hq => hl q (by simp [hq])
    have h2 := hl p (by simp)
    show (bindX p.1 p.2 (bindAll l e)).is = true
    simp [bindX, X.is, X.iss, h1, h2, must]

/-- the parts: each Is; those from the m-th one on are atoms; what is bound Is -/
theorem nrms_is (l : List X) (h : ∀ x ∈ l, ∀ c, (x.nrm c).1.is = true) (m i c : Nat) :
    (∀ p ∈ (X.nrms l m i c).2.1, p.2.is = true) ∧ (∀ y ∈ (X.nrms l m i c).1, y.is = true) ∧ (∀ j y, (X.nrms l m i c).1[j]? = some y → m ≤ i + j → y.atom = true) := by
  induction l generalizing i c with
  | nil => simp [X.nrms]
  | cons x l ih =>
    have hx := h x (by simp) c
    have ih := fun i c => ih (fun y hy => h y (by simp [hy])) i c
    rw [X.nrms]
    split
    · obtain ⟨h1, h2, h3⟩ := ih (i + 1) ((x.nrm c).2 + 1)
      refine ⟨fun p hp => ?_, fun y hy => ?_, fun j y hy hm => ?_⟩
      · rcases List.mem_cons.1 hp with rfl | hp
        · exact hx
        · exact h1 p hp
      · rcases List.mem_cons.1 hy with rfl | hy
        · exact (varX_is _).1
        · exact h2 y hy
      · cases j with
        | zero =>
          simp only [List.getElem?_cons_zero, Option.some.injEq] at hy
          rw [← hy]; exact (varX_is _).2
        | succ j => exact h3 j y (by simpa using hy) (by omega)
    · rename_i hc
      obtain ⟨h1, h2, h3⟩ := ih (i + 1) (x.nrm c).2
      refine ⟨h1, fun y hy => ?_, fun j y hy hm => ?_⟩
      · rcases List.mem_cons.1 hy with rfl | hy
        · exact hx
        · exact h2 y hy
      · cases j with
        | zero =>
          simp only [List.getElem?_cons_zero, Option.some.injEq] at hy
          rw [← hy]
          cases ha : (x.nrm c).1.atom with
          | true => rfl
          | false => exact absurd ⟨by omega, ha⟩ hc
        | succ j => exact h3 j y (by simpa using hy) (by omega)

theorem nrm_is : ∀ (x : X) (c : Nat), (x.nrm c).1.is = true := X.indA fun k t ns a ih c => by
  rw [X.nrm]
  obtain ⟨h1, h2, h3⟩ := nrms_is a ih ((must k t).getD a.length) 0 c
  refine bindAll_is _ _ h1 ?_
  have hl := nrms_len a ((must k t).getD a.length) 0 c
  rw [X.is, X.iss_eq, Bool.and_eq_true, List.all_eq_true, List.all_eq_true, hl]
  refine ⟨h2, fun y hy => ?_⟩
  obtain ⟨j, hj⟩ := List.mem_iff_getElem?.1 hy
  rw [List.getElem?_drop] at hj
  exact h3 _ y hj (by omega)

/-- what Is stays -/
theorem nrms_of_is (l : List X) (m i c : Nat) (h : ∀ x ∈ l, x.is = true → ∀ c, x.nrm c = (x, c)) (hi : ∀ x ∈ l, x.is = true) (ha : ∀ j y, l[j]? = some y → m ≤ i + j → y.atom = true) : X.nrms l m i c = (l, [], c) := by
  induction l generalizing i c with
  | nil => simp [X.nrms]
  | cons x l ih =>
    have hx := h x (by simp) (hi x (by simp)) c
    have h0 := ha 0 x rfl
    rw [X.nrms, hx]
    rw [if_neg (fun e => by rw [h0 (by omega)] at e; cases e.2)]
    simp only []
    rw [ih (i + 1) c (fun y hy => h y (by simp [hy])) (fun y hy => hi y (by simp [hy])) (fun j y hy hm => ha (j + 1) y (by simpa using hy) (by omega))]

theorem nrm_of_is : ∀ x : X, x.is = true → ∀ c, x.nrm c = (x, c) := X.indA fun k t ns a ih hi c => by
  rw [X.is, X.iss_eq, Bool.and_eq_true, List.all_eq_true, List.all_eq_true] at hi
  rw [X.nrm, nrms_of_is a ((must k t).getD a.length) 0 c ih hi.1 fun j y hy hm => hi.2 y (by
    refine List.mem_iff_getElem?.2 ⟨j - (must k t).getD a.length, ?_⟩
    rw [List.getElem?_drop, ← hy]
    congr 1; omega)]
  rfl

end Go.Lite

/-
  What is the same is one; what is normed is no longer than may be.
-/
namespace Go.Lite
open Go Go.Proofs
set_option maxRecDepth 100000
set_option linter.unusedSimpArgs false
set_option linter.unusedVariables false

theorem zipAll_same {α : Type} {p : α → α → Bool} : ∀ (l m : List α), (∀ x ∈ l, ∀ y, p x y = true ↔ x = y) → (zipAll p l m = true ↔ l = m)
  | [], [], _ => by simp [zipAll]
  | [], y :: ys, _ => by simp [zipAll]
  | x :: xs, [], _ => by simp [zipAll]
  | x :: xs, y :: ys, h => by
    rw [zipAll, Bool.and_eq_true, h x (by simp), zipAll_same xs ys fun z hz => h z (by simp [hz]), List.cons.injEq]

theorem same_iff : ∀ x y : X, x.same y = true ↔ x = y := X.indA fun k t ns l ih y => by
  obtain ⟨k', t', ns', l'⟩ := y
  rw [X.same, X.sames_eq, Bool.and_eq_true, Bool.and_eq_true, Bool.and_eq_true, zipAll_same l l' ih, zipAll_same ns ns' (fun x _ y => by simp), X.mk.injEq]
  simp

theorem same_refl' (x : X) : x.same x = true := (same_iff x x).2 rfl

theorem bindAll_fit (l : List (Str × X)) (e : X) (hl : ∀ p ∈ l, p.2.fit) (he : e.fit) : (bindAll l e).fit := by
  induction l with
  | nil => exact he
  | cons p l ih =>
    have h1 := ih fun q hq => hl q (by simp [hq])
    show (bindX p.1 p.2 (bindAll l e)).fit
    exact ⟨by simp, by simp, hl p (by simp), h1, trivial⟩

theorem nrms_fit (l : List X) (h : ∀ x ∈ l, ∀ c, (x.nrm c).1.fit) (m i c : Nat) : (∀ p ∈ (X.nrms l m i c).2.1, p.2.fit) ∧ (∀ y ∈ (X.nrms l m i c).1, y.fit) := by
  induction l generalizing i c with
  | nil => simp [X.nrms]
  | cons x l ih =>
    have hx := h x (by simp) c
    have ih := fun i c => ih (fun y hy => h y (by simp [hy])) i c
    rw [X.nrms]
    split
    · obtain ⟨h1, h2⟩ := ih (i + 1) ((x.nrm c).2 + 1)
      refine ⟨fun p hp => ?_, fun y hy => ?_⟩
      · rcases List.mem_cons.1 hp with rfl | hp
        · exact hx
        · exact h1 p hp
      · rcases List.mem_cons.1 hy with rfl | hy
        · exact ⟨by simp, by simp, trivial⟩
        · exact h2 y hy
    · obtain ⟨h1, h2⟩ := ih (i + 1) (x.nrm c).2
      refine ⟨h1, fun y hy => ?_⟩
      rcases List.mem_cons.1 hy with rfl | hy
      · exact hx
      · exact h2 y hy

theorem nrm_fit : ∀ (x : X), x.fit → ∀ c, (x.nrm c).1.fit := X.indA fun k t ns a ih hf c => by
  obtain ⟨f1, f2, f3⟩ := hf
  have f3 := (X.fits_iff a).1 f3
  rw [X.nrm]
  obtain ⟨h1, h2⟩ := nrms_fit a (fun x hx => ih x hx (f3 x hx)) ((must k t).getD a.length) 0 c
  refine bindAll_fit _ _ h1 ⟨f1, by rw [nrms_len]; exact f2, (X.fits_iff _).2 h2⟩

theorem bindAll_apt (l : List (Str × X)) (e : X) (hl : ∀ p ∈ l, p.2.apt) (he : e.apt) : (bindAll l e).apt := by
  induction l with
  | nil => exact he
  | cons p l ih =>
    have h1 := ih fun q hq => hl q (by simp [hq])
    show (bindX p.1 p.2 (bindAll l e)).apt
    exact ⟨by simp, hl p (by simp), h1, trivial⟩

theorem nrms_apt (l : List X) (h : ∀ x ∈ l, ∀ c, (x.nrm c).1.apt) (m i c : Nat) : (∀ p ∈ (X.nrms l m i c).2.1, p.2.apt) ∧ (∀ y ∈ (X.nrms l m i c).1, y.apt) := by
  induction l generalizing i c with
  | nil => simp [X.nrms]
  | cons x l ih =>
    have hx := h x (by simp) c
    have ih := fun i c => ih (fun y hy => h y (by simp [hy])) i c
    rw [X.nrms]
    split
    · obtain ⟨h1, h2⟩ := ih (i + 1) ((x.nrm c).2 + 1)
      refine ⟨fun p hp => ?_, fun y hy => ?_⟩
      · rcases List.mem_cons.1 hp with rfl | hp
        · exact hx
        · exact h1 p hp
      · rcases List.mem_cons.1 hy with rfl | hy
        · exact ⟨by decide, trivial⟩
        · exact h2 y hy
    · obtain ⟨h1, h2⟩ := ih (i + 1) (x.nrm c).2
      refine ⟨h1, fun y hy => ?_⟩
      rcases List.mem_cons.1 hy with rfl | hy
      · exact hx
      · exact h2 y hy

theorem nrm_apt : ∀ (x : X), x.apt → ∀ c, (x.nrm c).1.apt := X.indA fun k t ns a ih ha c => by
  obtain ⟨a1, a2⟩ := ha
  have a2 := (X.apts_iff a).1 a2
  rw [X.nrm]
  obtain ⟨h1, h2⟩ := nrms_apt a (fun x hx => ih x hx (a2 x hx)) ((must k t).getD a.length) 0 c
  refine bindAll_apt _ _ h1 ⟨fun h7 e => ?_, (X.apts_iff _).2 h2⟩
  have := nrms_len a ((must k t).getD a.length) 0 c
  rw [e] at this
  exact a1 h7 (List.eq_nil_of_length_eq_zero this.symm)

end Go.Lite

/-
  What is known ahead of each law.
-/
namespace Go.Lite
open Go Go.Proofs
set_option maxRecDepth 100000
set_option linter.unusedSimpArgs false
set_option linter.unusedVariables false

theorem shutC_sl {d k o n : Nat} {c : Cap} {H : Heap} : shutC (d + 1) (.slice (.new k) o n c) H = shutRow (shutC d) H k o n c (H.t.get k) := rfl
theorem shutRow_row {f : AV → Heap → Option (AV × Heap)} {H : Heap} {k o n es : Nat} {c : Cap} {cs : List AV} {fz : Bool} {ty : Option Nat} : shutRow f H k o n c (some (.row cs es fz ty)) =
    if ((cs.drop o).take (n * c.es)).length = n * c.es ∧ (n = 0 ∨ c.es ≠ 0) then (mapHM f ((cs.drop o).take (n * c.es)) (H.put k (.row cs es true ty))).map fun q => (.L (c.full 0) c.es q.1 n, q.2) else none := rfl

def fiveX : X := .mk 1 [53] [] []
def plusX : X := .mk 10 [43] [] [fiveX, fiveX]
def consX : X := .mk 10 consT [] [plusX, fiveX]

theorem five_nrm : fiveX.nrm 0 = (fiveX, 0) := nrm_of_is _ (by simp [fiveX, X.is, X.iss]) _
theorem plus_nrm : plusX.nrm 0 = (plusX, 0) := nrm_of_is _ (by simp [plusX, fiveX, X.is, X.iss, must, consT]) _
theorem cons_nrm : consX.nrm 0 = (bindX (pct 1) plusX (.mk 10 consT [] [varX (pct 1), fiveX]), 1) := by
  have h1 : plusX.atom = false := rfl
  have h2 : fiveX.nrm 1 = (fiveX, 1) := nrm_of_is _ (by simp [fiveX, X.is, X.iss]) _
  have h3 : fiveX.atom = true := rfl
  have hm : must 10 consT = some 0 := by decide
  simp only [consX, X.nrm, X.nrms, hm, Option.getD_some, plus_nrm, h1, h2, h3]
  rfl

theorem known10 : Ret P3 10 [] (.bool true) := by
  have hf5 : fiveX.fit := by simp [fiveX, X.fit, X.fits]
  have hfc : consX.fit := by simp [consX, plusX, fiveX, X.fit, X.fits]
  have ha5 : fiveX.apt := by simp [fiveX, X.apt, X.apts]
  have hac : consX.apt := by simp [consX, plusX, fiveX, X.apt, X.apts]
  have hi5 : fiveX.is = true := by simp [fiveX, X.is, X.iss]
  have hic : consX.is = false := by
    cases h : consX.is with
    | false => rfl
    | true =>
      have := nrm_of_is _ h 0
      rw [cons_nrm] at this
      simp [bindX, consX] at this
  have e1 := norm16 fiveX hf5 (by rw [five_nrm]; decide)
  have e2 := norm16 consX hfc (by rw [cons_nrm]; decide)
  have e3 := same15 fiveX hf5 fiveX
  have e4 := is13 fiveX hf5 ha5
  have e5 := is13 consX hfc hac
  rw [five_nrm] at e1
  rw [cons_nrm] at e2
  rw [same_refl'] at e3
  rw [hi5] at e4
  rw [hic] at e5
  refine Ret.of rfl (code10 _ _) rfl rfl (fun H => rfl) ((e1.and (e2.and (e3.and (e4.and e5)))).mono fun n hn H => ?_)
  obtain ⟨e1, e2, e3, e4, e5⟩ := hn
  simp only [fiveX, plusX, consX, bindX, X.v_mk, consT, vStrs_nil, vXs_nil, vXs_two, vStrs_one, X.cells_mk, varX, show pct 1 = [37, 46, 49] from rfl, List.cons_append, List.nil_append] at e1 e2 e3 e4 e5
  have h11 : (((1 : Nat) : Int) == 1) = true := rfl
  have h01 : (0 : Nat) < 1 := by decide
  simp -implicitDefEqProofs only [c10, h11, h01, Int.le_refl, Int.toNat_zero, Nat.zero_mul, ↓v_lenS, SB, POp.val, AOp.val, WOp.val, Lite.bin, intBin, strBin, eqv, eqMany, eq1, AV.asBool, AV.asInt, AV.asNat, AV.asPtr, AV.asStr, resVals, ResV.val, oneOr, wants, skipped, fillAt, putAt, capOf, optNat, bnd, Nat.reduceBEq, reduceIte, Nat.reduceAdd, Nat.reduceLeDiff, Nat.reduceEqDiff, Nat.reduceSub, Nat.reduceMul, Nat.reduceDiv, SOper.again, same, sameBlk, sameCap, Nat.reduceBneDiff, s_draw2, s_pair, k_pair, asunder, SOper.into, Bool.not_false, Bool.not_true, CL, e1, e2, e3, e4, e5, shutC_sl, shutRow_row, Cap.es, Cap.full, Nat.zero_add, Nat.reduceMul, Ends, gives_ret]
  exact ⟨_, rfl⟩

end Go.Lite

/-
  Raw terms: how many they are.
-/
namespace Go.Lite
open Go Go.Proofs
set_option maxRecDepth 100000
set_option linter.unusedSimpArgs false
set_option linter.unusedVariables false

inductive Raw where
  | mk (k n : Int) (l : List Raw)

mutual
theorem Raw.indA {P : Raw → Prop} (h : ∀ k n l, (∀ d ∈ l, P d) → P (.mk k n l)) : ∀ d, P d
  | .mk k n l => h k n l (Raw.indB h l)
theorem Raw.indB {P : Raw → Prop} (h : ∀ k n l, (∀ d ∈ l, P d) → P (.mk k n l)) : ∀ l : List Raw, ∀ d ∈ l, P d
  | [], d, hd => by cases hd
  | e :: l, d, hd => by
    rcases List.mem_cons.1 hd with h1 | h1
    · rw [h1]; exact Raw.indA h e
    · exact Raw.indB h l d h1
end

def Raw.l : Raw → List Raw
  | .mk _ _ l => l

mutual
def Raw.cells : Raw → List AV
  | .mk k n l => [.int .i64 k, .int .i64 n, .L false 3 (Raw.cellsL l) l.length]
def Raw.cellsL : List Raw → List AV
  | [] => []
  | d :: ds => d.cells ++ Raw.cellsL ds
end

theorem Raw.cellsL_eq (l : List Raw) : Raw.cellsL l = l.flatMap Raw.cells := by
  induction l with
  | nil => rfl
  | cons d l ih => rw [Raw.cellsL, ih, List.flatMap_cons]

def vRaws (l : List Raw) : AV := vList false 3 Raw.cells l

theorem Raw.cells_mk (k n : Int) (l : List Raw) : (Raw.mk k n l).cells = [.int .i64 k, .int .i64 n, vRaws l] := by
  rw [Raw.cells, Raw.cellsL_eq]; rfl
theorem Raw.cells_len (d : Raw) : d.cells.length = 3 := by cases d; rw [Raw.cells_mk]; rfl
theorem Raw.still (d : Raw) : Still d.cells := by
  cases d
  rw [Raw.cells_mk]
  exact .cons (fun _ _ => shutC_int) (.cons (fun _ _ => shutC_int) (.cons (fun _ _ => shutC_vList) .nil))
theorem len_vRaws {l : List Raw} : lenM (vRaws l) = some (.int .i64 l.length) := len_vList
theorem shutC_vRaws {d : Nat} {l : List Raw} {H : Heap} : shutC d (vRaws l) H = some (vRaws l, H) := shutC_vList
theorem shutV_vRaws {l : List Raw} {H : Heap} : shutV (vRaws l) H = some (vRaws l, H) := shutV_vList
theorem fl_vRaws {l : List Raw} : (vRaws l).flat = true := fl_vListX
theorem iaddr_vRaws {l : List Raw} {j : Nat} {d : Raw} (h : l[j]? = some d) : iaddrV 3 (vRaws l) j = some (.ptr (.val d.cells) 0) := iaddr_at Raw.cells_len h

/-! ### How many -/

mutual
def Raw.cnt : Raw → Nat
  | .mk _ _ l => 1 + Raw.cnts l
def Raw.cnts : List Raw → Nat
  | [] => 0
  | d :: ds => d.cnt + Raw.cnts ds
end

/-- as long as there are not too many -/
def goR (f : Raw → Nat) : Nat → List Raw → Nat
  | n, [] => n
  | n, r :: rs => if n ≤ 40 then goR f (n + 1 + f r) rs else n

/-- how many, as the law counts them: so many levels may still come -/
def sizeR : Nat → List Raw → Nat
  | 0, _ => 1000
  | s + 1, l => goR (fun r => sizeR s r.l) 0 l

theorem goR_ge (f : Raw → Nat) : ∀ (l : List Raw) (n : Nat), n ≤ goR f n l
  | [], n => Nat.le_refl n
  | r :: rs, n => by
    rw [goR]
    split
    · exact Nat.le_trans (by omega) (goR_ge f rs _)
    · exact Nat.le_refl n

theorem goR_le {f : Raw → Nat} {B : Nat} (hf : ∀ r, f r ≤ B) : ∀ (l : List Raw) (n : Nat), n ≤ 41 + B → goR f n l ≤ 41 + B
  | [], n, h => h
  | r :: rs, n, h => by
    rw [goR]
    split
    · exact goR_le hf rs _ (by have := hf r; omega)
    · exact h

theorem sizeR_le : ∀ (s : Nat) (l : List Raw), sizeR s l ≤ 1000 + 41 * s
  | 0, l => by simp [sizeR]
  | s + 1, l => by
    rw [sizeR]
    have := goR_le (B := 1000 + 41 * s) (fun r => sizeR_le s r.l) l 0 (by omega)
    omega

theorem few_cnt : ∀ (s : Nat) (l : List Raw), sizeR s l ≤ 40 → sizeR s l = Raw.cnts l
  | 0, l, h => by simp [sizeR] at h
  | s + 1, l, h => by
    rw [sizeR] at h ⊢
    have key : ∀ (l : List Raw) (n : Nat), goR (fun r => sizeR s r.l) n l ≤ 40 → goR (fun r => sizeR s r.l) n l = n + Raw.cnts l := by
      intro l
      induction l with
      | nil => intro n h; simp [goR, Raw.cnts]
      | cons r rs ih =>
        intro n h
        rw [goR] at h ⊢
        split at h
        · rename_i hn
          rw [if_pos hn, ih _ h, Raw.cnts]
          have h1 := goR_ge (fun r => sizeR s r.l) rs (n + 1 + sizeR s r.l)
          have h2 := few_cnt s r.l (by omega)
          obtain ⟨k, q, l⟩ := r
          rw [Raw.cnt]
          simp only [Raw.l] at h2 ⊢
          omega
        · omega
    have := key l 0 h
    omega


mutual
/-- lists of no greater length than any machine holds -/
def Raw.fit : Raw → Prop
  | .mk _ _ l => l.length ≤ 9223372036854775807 ∧ Raw.fits l
def Raw.fits : List Raw → Prop
  | [] => True
  | d :: ds => d.fit ∧ Raw.fits ds
end

theorem Raw.fits_iff (l : List Raw) : Raw.fits l ↔ ∀ d ∈ l, d.fit := by
  induction l with
  | nil => simp [Raw.fits]
  | cons d l ih => simp [Raw.fits, ih]

theorem goR_stop {f : Raw → Nat} {n : Nat} (h : 40 < n) : ∀ l, goR f n l = n
  | [] => rfl
  | r :: rs => by rw [goR, if_neg (by omega)]

theorem sizeRun : ∀ (s : Nat), s ≤ 13 → ∀ (l : List Raw), l.length ≤ 9223372036854775807 → Raw.fits l → Ret P3 29 [vRaws l, .int .i64 (13 - s : Int)] (.int .i64 (sizeR s l))
  | 0, _, l, _, _ => by
    refine Ret.of rfl (code29 _ _) rfl rfl (fun H => by simp -implicitDefEqProofs only [↓v_lenS, SB, POp.val, AOp.val, WOp.val, Lite.bin, intBin, strBin, eqv, eqMany, eq1, AV.asBool, AV.asInt, AV.asNat, AV.asPtr, AV.asStr, resVals, ResV.val, oneOr, wants, skipped, fillAt, putAt, capOf, optNat, bnd, Nat.reduceBEq, reduceIte, Nat.reduceAdd, Nat.reduceLeDiff, Nat.reduceEqDiff, Nat.reduceSub, Nat.reduceMul, Nat.reduceDiv, SOper.again, same, sameBlk, sameCap, Nat.reduceBneDiff, s_draw2, s_pair, k_pair, asunder, SOper.into, Bool.not_false, Bool.not_true, shutV_vRaws]) (Ev.of fun n H => ?_)
    have h : ((13 : Int) - (0 : Nat) > 12) := by decide
    simp -implicitDefEqProofs only [c29, ↓v_lenS, SB, POp.val, AOp.val, WOp.val, Lite.bin, intBin, strBin, eqv, eqMany, eq1, AV.asBool, AV.asInt, AV.asNat, AV.asPtr, AV.asStr, resVals, ResV.val, oneOr, wants, skipped, fillAt, putAt, capOf, optNat, bnd, Nat.reduceBEq, reduceIte, Nat.reduceAdd, Nat.reduceLeDiff, Nat.reduceEqDiff, Nat.reduceSub, Nat.reduceMul, Nat.reduceDiv, SOper.again, same, sameBlk, sameCap, Nat.reduceBneDiff, s_draw2, s_pair, k_pair, asunder, SOper.into, Bool.not_false, Bool.not_true, h, Ends, gives_ret]
    exact ⟨_, rfl⟩
  | s + 1, hs, l, hl, hf => by
    rw [Raw.fits_iff] at hf
    have ih : ∀ r ∈ l, Ret P3 29 [vRaws r.l, .int .i64 (13 - s : Int)] (.int .i64 (sizeR s r.l)) := fun r hr => by
      have := hf r hr
      obtain ⟨k, q, l'⟩ := r
      rw [Raw.fit] at this
      exact sizeRun s (by omega) l' this.1 this.2
    refine Ret.of rfl (code29 _ _) rfl rfl (fun H => by simp -implicitDefEqProofs only [↓v_lenS, SB, POp.val, AOp.val, WOp.val, Lite.bin, intBin, strBin, eqv, eqMany, eq1, AV.asBool, AV.asInt, AV.asNat, AV.asPtr, AV.asStr, resVals, ResV.val, oneOr, wants, skipped, fillAt, putAt, capOf, optNat, bnd, Nat.reduceBEq, reduceIte, Nat.reduceAdd, Nat.reduceLeDiff, Nat.reduceEqDiff, Nat.reduceSub, Nat.reduceMul, Nat.reduceDiv, SOper.again, same, sameBlk, sameCap, Nat.reduceBneDiff, s_draw2, s_pair, k_pair, asunder, SOper.into, Bool.not_false, Bool.not_true, shutV_vRaws]) ?_
    refine ((Ev.all l ih).and (Ev.ge (l.length + 1))).mono fun n hn H => ?_
    obtain ⟨ihn, hge⟩ := hn
    have h : ¬ ((13 : Int) - ((s + 1 : Nat) : Int) > 12) := by omega
    rw [sizeR]
    simp -implicitDefEqProofs only [c29, ↓v_lenS, SB, POp.val, AOp.val, WOp.val, Lite.bin, intBin, strBin, eqv, eqMany, eq1, AV.asBool, AV.asInt, AV.asNat, AV.asPtr, AV.asStr, resVals, ResV.val, oneOr, wants, skipped, fillAt, putAt, capOf, optNat, bnd, Nat.reduceBEq, reduceIte, Nat.reduceAdd, Nat.reduceLeDiff, Nat.reduceEqDiff, Nat.reduceSub, Nat.reduceMul, Nat.reduceDiv, SOper.again, same, sameBlk, sameCap, Nat.reduceBneDiff, s_draw2, s_pair, k_pair, asunder, SOper.into, Bool.not_false, Bool.not_true, h]
    refine loop_rounds l.length (fun i fr H => ∃ acc, goR (fun r => sizeR s r.l) acc (l.drop i) = goR (fun r => sizeR s r.l) 0 l ∧ acc ≤ 3000 ∧ fr 0 = vRaws l ∧ fr 1 = .int .i64 (13 - (s + 1 : Nat) : Int) ∧ fr 6 = .int .i64 i ∧ fr 5 = .int .i64 acc) ?_ ?_ n 0 _ _ (by omega) (by omega) ?_
    · rintro i fr H K' hi ⟨acc, hacc, hle, h0, h1, h6, h5⟩ hKe hKr hK
      obtain ⟨r, hr⟩ : ∃ r, l[i]? = some r := ⟨l[i], List.getElem?_eq_getElem hi⟩
      have e1 := ihn r (List.mem_of_getElem? hr)
      have hlt : (i : Int) < (l.length : Int) := by omega
      have hw := wrap_succ hi hl
      have hdr : l.drop i = r :: l.drop (i + 1) := by
        have h3 := (List.getElem?_eq_some_iff.1 hr)
        rw [← List.getElem_cons_drop (h := hi), h3.2]
      rw [hdr, goR] at hacc
      by_cases h40 : acc ≤ 40
      · rw [if_pos h40] at hacc
        have hg : (acc : Int) ≤ 40 := by omega
        have hw1 : IntKind.i64.wrap ((acc : Int) + 1) = ((acc + 1 : Nat) : Int) := by rw [wrap64 (by omega) (by omega)]; rfl
        have hb := sizeR_le s r.l
        have hw2 : IntKind.i64.wrap (((acc + 1 : Nat) : Int) + ((sizeR s r.l : Nat) : Int)) = ((acc + 1 + sizeR s r.l : Nat) : Int) := wrap_nat (by omega)
        have hw3 : IntKind.i64.wrap ((13 : Int) - ((s + 1 : Nat) : Int) + 1) = (13 : Int) - (s : Int) := by rw [wrap64 (by omega) (by omega)]; omega
        obtain ⟨k, q, l'⟩ := r
        simp only [Raw.l] at e1 hacc hw2 hb
        simp -implicitDefEqProofs only [c29_l0, ↓v_lenS, SB, POp.val, AOp.val, WOp.val, Lite.bin, intBin, strBin, eqv, eqMany, eq1, AV.asBool, AV.asInt, AV.asNat, AV.asPtr, AV.asStr, resVals, ResV.val, oneOr, wants, skipped, fillAt, putAt, capOf, optNat, bnd, Nat.reduceBEq, reduceIte, Nat.reduceAdd, Nat.reduceLeDiff, Nat.reduceEqDiff, Nat.reduceSub, Nat.reduceMul, Nat.reduceDiv, SOper.again, same, sameBlk, sameCap, Nat.reduceBneDiff, s_draw2, s_pair, k_pair, asunder, SOper.into, Bool.not_false, Bool.not_true, CL, h0, h1, h6, h5, hlt, hg, iaddr_vRaws hr, Raw.cells_mk, shutV_vRaws, len_vRaws, e1, hw, hw1, hw2, hw3]
        refine hK _ _ ⟨acc + 1 + sizeR s l', hacc, by omega, ?_⟩
        simp -implicitDefEqProofs only [↓v_lenS, SB, POp.val, AOp.val, WOp.val, Lite.bin, intBin, strBin, eqv, eqMany, eq1, AV.asBool, AV.asInt, AV.asNat, AV.asPtr, AV.asStr, resVals, ResV.val, oneOr, wants, skipped, fillAt, putAt, capOf, optNat, bnd, Nat.reduceBEq, reduceIte, Nat.reduceAdd, Nat.reduceLeDiff, Nat.reduceEqDiff, Nat.reduceSub, Nat.reduceMul, Nat.reduceDiv, SOper.again, same, sameBlk, sameCap, Nat.reduceBneDiff, s_draw2, s_pair, k_pair, asunder, SOper.into, Bool.not_false, Bool.not_true, h0, h1, h6]
      · rw [if_neg h40] at hacc
        have hg : ¬ (acc : Int) ≤ 40 := by omega
        simp -implicitDefEqProofs only [c29_l0, ↓v_lenS, SB, POp.val, AOp.val, WOp.val, Lite.bin, intBin, strBin, eqv, eqMany, eq1, AV.asBool, AV.asInt, AV.asNat, AV.asPtr, AV.asStr, resVals, ResV.val, oneOr, wants, skipped, fillAt, putAt, capOf, optNat, bnd, Nat.reduceBEq, reduceIte, Nat.reduceAdd, Nat.reduceLeDiff, Nat.reduceEqDiff, Nat.reduceSub, Nat.reduceMul, Nat.reduceDiv, SOper.again, same, sameBlk, sameCap, Nat.reduceBneDiff, s_draw2, s_pair, k_pair, asunder, SOper.into, Bool.not_false, Bool.not_true, CL, h0, h1, h6, h5, hlt, hg, len_vRaws, hKe, Ends, gives_ret]
        exact ⟨_, by rw [hacc]⟩
    · rintro fr H K' ⟨acc, hacc, hle, h0, h1, h6, h5⟩ hKe hKr
      rw [List.drop_length, goR] at hacc
      simp -implicitDefEqProofs only [c29_l0, ↓v_lenS, SB, POp.val, AOp.val, WOp.val, Lite.bin, intBin, strBin, eqv, eqMany, eq1, AV.asBool, AV.asInt, AV.asNat, AV.asPtr, AV.asStr, resVals, ResV.val, oneOr, wants, skipped, fillAt, putAt, capOf, optNat, bnd, Nat.reduceBEq, reduceIte, Nat.reduceAdd, Nat.reduceLeDiff, Nat.reduceEqDiff, Nat.reduceSub, Nat.reduceMul, Nat.reduceDiv, SOper.again, same, sameBlk, sameCap, Nat.reduceBneDiff, s_draw2, s_pair, k_pair, asunder, SOper.into, Bool.not_false, Bool.not_true, CL, h0, h1, h6, h5, Int.lt_irrefl, len_vRaws, hKe, Ends, gives_ret]
      exact ⟨_, by rw [hacc]⟩
    · refine ⟨0, by rw [List.drop_zero], by omega, ?_⟩
      simp -implicitDefEqProofs only [↓v_lenS, SB, POp.val, AOp.val, WOp.val, Lite.bin, intBin, strBin, eqv, eqMany, eq1, AV.asBool, AV.asInt, AV.asNat, AV.asPtr, AV.asStr, resVals, ResV.val, oneOr, wants, skipped, fillAt, putAt, capOf, optNat, bnd, Nat.reduceBEq, reduceIte, Nat.reduceAdd, Nat.reduceLeDiff, Nat.reduceEqDiff, Nat.reduceSub, Nat.reduceMul, Nat.reduceDiv, SOper.again, same, sameBlk, sameCap, Nat.reduceBneDiff, s_draw2, s_pair, k_pair, asunder, SOper.into, Bool.not_false, Bool.not_true]
      rfl

theorem few11 (l : List Raw) (hl : l.length ≤ 9223372036854775807) (hf : Raw.fits l) : Ret P3 11 [vRaws l] (.bool (decide (sizeR 13 l ≤ 40))) := by
  refine Ret.of rfl (code11 _ _) rfl rfl (fun H => by simp -implicitDefEqProofs only [↓v_lenS, SB, POp.val, AOp.val, WOp.val, Lite.bin, intBin, strBin, eqv, eqMany, eq1, AV.asBool, AV.asInt, AV.asNat, AV.asPtr, AV.asStr, resVals, ResV.val, oneOr, wants, skipped, fillAt, putAt, capOf, optNat, bnd, Nat.reduceBEq, reduceIte, Nat.reduceAdd, Nat.reduceLeDiff, Nat.reduceEqDiff, Nat.reduceSub, Nat.reduceMul, Nat.reduceDiv, SOper.again, same, sameBlk, sameCap, Nat.reduceBneDiff, s_draw2, s_pair, k_pair, asunder, SOper.into, Bool.not_false, Bool.not_true, shutV_vRaws]) ?_
  refine (sizeRun 13 (Nat.le_refl _) l hl hf).mono fun n e1 H => ?_
  have h0 : (13 : Int) - (13 : Nat) = 0 := by decide
  rw [h0] at e1
  have hd : decide ((sizeR 13 l : Int) ≤ 40) = decide (sizeR 13 l ≤ 40) := by
    by_cases h : sizeR 13 l ≤ 40
    · rw [decide_eq_true h, decide_eq_true (by omega)]
    · rw [decide_eq_false h, decide_eq_false (by omega)]
  simp -implicitDefEqProofs only [c11, ↓v_lenS, SB, POp.val, AOp.val, WOp.val, Lite.bin, intBin, strBin, eqv, eqMany, eq1, AV.asBool, AV.asInt, AV.asNat, AV.asPtr, AV.asStr, resVals, ResV.val, oneOr, wants, skipped, fillAt, putAt, capOf, optNat, bnd, Nat.reduceBEq, reduceIte, Nat.reduceAdd, Nat.reduceLeDiff, Nat.reduceEqDiff, Nat.reduceSub, Nat.reduceMul, Nat.reduceDiv, SOper.again, same, sameBlk, sameCap, Nat.reduceBneDiff, s_draw2, s_pair, k_pair, asunder, SOper.into, Bool.not_false, Bool.not_true, CL, shutV_vRaws, e1, Ends, gives_ret, hd]
  exact ⟨_, rfl⟩

theorem within_range (a n : Int) (hn : 0 < n) (hn' : n ≤ 4611686018427387904) : 0 ≤ within a n ∧ within a n < n := by
  unfold within
  have h1 := Int.tmod_lt_of_pos a hn
  have h2 : -n < a.tmod n := by
    have := Int.tmod_lt_of_pos (-a) hn
    rw [Int.neg_tmod] at this
    omega
  split
  · have : IntKind.i64.wrap (a.tmod n + n) = a.tmod n + n := wrap64 (by omega) (by omega)
    rw [this]; omega
  · omega

end Go.Lite

/-
  Names that the maker makes.
-/
namespace Go.Lite
open Go Go.Proofs
set_option maxRecDepth 100000
set_option linter.unusedSimpArgs false
set_option linter.unusedVariables false

theorem digit48 (n : Nat) (hn : n < 10) : Ret P3 48 [.int .i64 n] (.str [48 + n]) := by
  refine Ret.of rfl (code48 _ _) rfl rfl (fun H => by simp -implicitDefEqProofs only [↓v_lenS, SB, POp.val, AOp.val, WOp.val, Lite.bin, intBin, strBin, eqv, eqMany, eq1, AV.asBool, AV.asInt, AV.asNat, AV.asPtr, AV.asStr, resVals, ResV.val, oneOr, wants, skipped, fillAt, putAt, capOf, optNat, bnd, Nat.reduceBEq, reduceIte, Nat.reduceAdd, Nat.reduceLeDiff, Nat.reduceEqDiff, Nat.reduceSub, Nat.reduceMul, Nat.reduceDiv, SOper.again, same, sameBlk, sameCap, Nat.reduceBneDiff, s_draw2, s_pair, k_pair, asunder, SOper.into, Bool.not_false, Bool.not_true]) (Ev.of fun m H => ?_)
  have hc : ¬ (n : Int) ≥ 10 := by omega
  have hw : IntKind.i64.wrap (48 + (n : Int)) = ((48 + n : Nat) : Int) := by rw [wrap64 (by omega) (by omega)]; omega
  have hw2 : IntKind.u8.wrap ((48 + n : Nat) : Int) = ((48 + n : Nat) : Int) := by
    have : ∀ n : Nat, n < 10 → IntKind.u8.wrap ((48 + n : Nat) : Int) = ((48 + n : Nat) : Int) := by decide
    exact this n hn
  have hb : bytesOf [AV.int .u8 ((48 + n : Nat) : Int)] = some [48 + n] := by
    have : ∀ n : Nat, n < 10 → bytesOf [AV.int .u8 ((48 + n : Nat) : Int)] = some [48 + n] := by decide
    exact this n hn
  simp -implicitDefEqProofs only [c48, ↓v_lenS, SB, POp.val, AOp.val, WOp.val, Lite.bin, intBin, strBin, eqv, eqMany, eq1, AV.asBool, AV.asInt, AV.asNat, AV.asPtr, AV.asStr, resVals, ResV.val, oneOr, wants, skipped, fillAt, putAt, capOf, optNat, bnd, Nat.reduceBEq, reduceIte, Nat.reduceAdd, Nat.reduceLeDiff, Nat.reduceEqDiff, Nat.reduceSub, Nat.reduceMul, Nat.reduceDiv, SOper.again, same, sameBlk, sameCap, Nat.reduceBneDiff, s_draw2, s_pair, k_pair, asunder, SOper.into, Bool.not_false, Bool.not_true, hc, hw, hw2, hb, Ends, gives_ret, strOfBytes]
  exact ⟨_, rfl⟩

theorem digits48 (n : Nat) (hn : n < 100) : Ret P3 48 [.int .i64 n] (.str (numT n)) := by
  unfold numT
  by_cases h : n < 10
  · rw [if_pos h]; exact digit48 n h
  · rw [if_neg h]
    refine Ret.of rfl (code48 _ _) rfl rfl (fun H => by simp -implicitDefEqProofs only [↓v_lenS, SB, POp.val, AOp.val, WOp.val, Lite.bin, intBin, strBin, eqv, eqMany, eq1, AV.asBool, AV.asInt, AV.asNat, AV.asPtr, AV.asStr, resVals, ResV.val, oneOr, wants, skipped, fillAt, putAt, capOf, optNat, bnd, Nat.reduceBEq, reduceIte, Nat.reduceAdd, Nat.reduceLeDiff, Nat.reduceEqDiff, Nat.reduceSub, Nat.reduceMul, Nat.reduceDiv, SOper.again, same, sameBlk, sameCap, Nat.reduceBneDiff, s_draw2, s_pair, k_pair, asunder, SOper.into, Bool.not_false, Bool.not_true]) (((digit48 (n / 10) (by omega)).and (digit48 (n % 10) (by omega))).mono fun m e H => ?_)
    obtain ⟨e1, e2⟩ := e
    have hc : (n : Int) ≥ 10 := by omega
    have hq : IntKind.i64.wrap ((n : Int).tdiv 10) = ((n / 10 : Nat) : Int) := by
      rw [Int.tdiv_eq_ediv_of_nonneg (by omega), wrap64 (by omega) (by omega)]; omega
    have hr : IntKind.i64.wrap ((n : Int).tmod 10) = ((n % 10 : Nat) : Int) := by
      rw [Int.tmod_eq_emod_of_nonneg (by omega), wrap64 (by omega) (by omega)]; omega
    have hr' : (n : Int).tmod 10 = ((n % 10 : Nat) : Int) := by rw [Int.tmod_eq_emod_of_nonneg (by omega)]; omega
    have h10 : ((10 : Int) == 0) = false := rfl
    have h10' : ¬ (10 : Int) = 0 := by omega
    simp -implicitDefEqProofs only [c48, ↓v_lenS, SB, POp.val, AOp.val, WOp.val, Lite.bin, intBin, strBin, eqv, eqMany, eq1, AV.asBool, AV.asInt, AV.asNat, AV.asPtr, AV.asStr, resVals, ResV.val, oneOr, wants, skipped, fillAt, putAt, capOf, optNat, bnd, Nat.reduceBEq, reduceIte, Nat.reduceAdd, Nat.reduceLeDiff, Nat.reduceEqDiff, Nat.reduceSub, Nat.reduceMul, Nat.reduceDiv, SOper.again, same, sameBlk, sameCap, Nat.reduceBneDiff, s_draw2, s_pair, k_pair, asunder, SOper.into, Bool.not_false, Bool.not_true, CL, hc, hq, hr, hr', h10, h10', e1, e2, Ends, gives_ret]
    exact ⟨_, rfl⟩


/-- a maker's name, by its number -/
def vdot (n : Nat) : Str := [118, 46] ++ numT n

theorem name31 (c : Nat) (hc : c + 1 < 100) : Ev fun n => ∀ (H : Heap) (k0 : Nat) (ty : Option Nat), HLow H → H.t.get k0 = some (.row [.int .i64 c] 0 false ty) →
    Gives (call1 P3 n 31 [.ptr (.new k0) 0] H) fun v H' => v = .str (vdot (c + 1)) ∧ H'.t.get k0 = some (.row [.int .i64 (c + 1 : Nat)] 0 false ty) ∧ HKeep (only k0) H H' := by
  refine Ev.succ ((digits48 (c + 1) hc).mono fun n e H k0 ty low g0 => ?_)
  rw [call1_code (P := P3) (sf := c31) (code31 _ _) rfl]
  refine gives_settled ?_
  have hw : IntKind.i64.wrap ((c : Int) + 1) = ((c + 1 : Nat) : Int) := wrap_succ (n := c + 1) (by omega) (by omega)
  have hk0 := low.lt g0
  have hl : 2 + (numT (c + 1)).length ≤ 4611686018427387904 := by have := numT_len (c + 1); omega
  simp -implicitDefEqProofs only [c31, ↓v_lenS, SB, POp.val, AOp.val, WOp.val, Lite.bin, intBin, strBin, eqv, eqMany, eq1, AV.asBool, AV.asInt, AV.asNat, AV.asPtr, AV.asStr, resVals, ResV.val, oneOr, wants, skipped, fillAt, putAt, capOf, optNat, bnd, Nat.reduceBEq, reduceIte, Nat.reduceAdd, Nat.reduceLeDiff, Nat.reduceEqDiff, Nat.reduceSub, Nat.reduceMul, Nat.reduceDiv, SOper.again, same, sameBlk, sameCap, Nat.reduceBneDiff, s_draw2, s_pair, k_pair, asunder, SOper.into, Bool.not_false, Bool.not_true, CL, g0, hw, e, hl, gives_ret]
  refine ⟨_, _, rfl, rfl, ?_, HKeep.put (X := only k0) (fun _ => rfl) hk0⟩
  rw [h_gput, if_pos rfl]

end Go.Lite
