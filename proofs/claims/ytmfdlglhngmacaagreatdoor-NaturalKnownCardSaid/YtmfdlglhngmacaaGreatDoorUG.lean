/-
  Several texts in one: TData, TBData, TBStr, TBLimb, TBLoad, TBText, TBSum, TBMul, TBQuo, TBLemma.
-/
import Derived.Test.YtmfdlglhngmacaaGreatDoorUE
import Derived.Test.YtmfdlglhngmacaaGreatDoorUF
import Derived.Test.YtmfdlglhngmacaaGreatDoorUD

set_option linter.unusedSimpArgs false
set_option linter.unusedVariables false
set_option linter.defProp false
set_option maxRecDepth 100000

/-
  Terms as Lean trees, and as the interpreter's values; the seat of Natural as the interpreter takes it.
-/
namespace Go.Lite
open Go Go.Proofs
inductive X where
  | mk (kind : Int) (text : Str) (names : List Str) (a : List X)
mutual
theorem X.indA {P : X → Prop} (h : ∀ k t ns a, (∀ x ∈ a, P x) → P (.mk k t ns a)) : ∀ x, P x
  | .mk k t ns a => h k t ns a (X.indB h a)
theorem X.indB {P : X → Prop} (h : ∀ k t ns a, (∀ x ∈ a, P x) → P (.mk k t ns a)) : ∀ l : List X, ∀ x ∈ l, P x
  | [], x, hx => by cases hx
  | e :: l, x, hx => by
    rcases List.mem_cons.1 hx with h1 | h1
    · rw [h1]; exact X.indA h e
    · exact X.indB h l x h1
end
def str1 (s : Str) : List AV := [.str s]
theorem str1_len (s : Str) : (str1 s).length = 1 := rfl
def vStrs (ns : List Str) : AV := vList true 1 str1 ns
mutual
def X.cells : X → List AV
  | .mk k t ns a => [.int .i64 k, .str t, vStrs ns, .L true 4 (X.cellsL a) a.length]
def X.cellsL : List X → List AV
  | [] => []
  | x :: xs => x.cells ++ X.cellsL xs
end
theorem X.cellsL_eq (l : List X) : X.cellsL l = l.flatMap X.cells := by
  induction l with
  | nil => rfl
  | cons d l ih => rw [X.cellsL, ih, List.flatMap_cons]
def vXs (l : List X) : AV := vList true 4 X.cells l
theorem X.cells_mk (k : Int) (t : Str) (ns : List Str) (a : List X) : (X.mk k t ns a).cells = [.int .i64 k, .str t, vStrs ns, vXs a] := by
  rw [X.cells, X.cellsL_eq]; rfl
theorem X.cells_len (x : X) : x.cells.length = 4 := by cases x; rw [X.cells_mk]; rfl
def X.v (x : X) : AV := .agg x.cells
theorem X.v_mk (k : Int) (t : Str) (ns : List Str) (a : List X) : (X.mk k t ns a).v = .agg [.int .i64 k, .str t, vStrs ns, vXs a] := by
  rw [X.v, X.cells_mk]
theorem X.still (x : X) : Still x.cells := by
  cases x
  rw [X.cells_mk]
  exact .cons (fun _ _ => shutC_int) (.cons (fun _ _ => shutC_str) (.cons (fun _ _ => shutC_vList) (.cons (fun _ _ => shutC_vList) .nil)))
theorem X.shut {x : X} {H : Heap} : shutV x.v H = some (x.v, H) := by
  rw [X.v, shutV_agg, x.still.map]; rfl
theorem X.shutA {x : X} {H : Heap} : Lite.shutA x.v H = some (x.v, H) := by
  rw [X.v, shutA_agg, x.still.map]; rfl
theorem str1_still (s : Str) : Still (str1 s) := Still.str _
theorem fl_vListX {α : Type} {f : Bool} {es : Nat} {g : α → List AV} {l : List α} : (vList f es g l).flat = true := by cases l <;> rfl
theorem len_vStrs {ns : List Str} : lenM (vStrs ns) = some (.int .i64 ns.length) := len_vList
theorem len_vXs {l : List X} : lenM (vXs l) = some (.int .i64 l.length) := len_vList
theorem shutC_vStrs {d : Nat} {ns : List Str} {H : Heap} : shutC d (vStrs ns) H = some (vStrs ns, H) := shutC_vList
theorem shutC_vXs {d : Nat} {l : List X} {H : Heap} : shutC d (vXs l) H = some (vXs l, H) := shutC_vList
theorem shutV_vStrs {ns : List Str} {H : Heap} : shutV (vStrs ns) H = some (vStrs ns, H) := shutV_vList
theorem shutV_vXs {l : List X} {H : Heap} : shutV (vXs l) H = some (vXs l, H) := shutV_vList
theorem iaddr_vXs {l : List X} {j : Nat} {d : X} (h : l[j]? = some d) : iaddrV 4 (vXs l) j = some (.ptr (.val d.cells) 0) := iaddr_at X.cells_len h
theorem iaddr_vStrs {l : List Str} {j : Nat} {d : Str} (h : l[j]? = some d) : iaddrV 1 (vStrs l) j = some (.ptr (.val [.str d]) 0) := iaddr_at str1_len h
theorem fl_vStrs {ns : List Str} : (vStrs ns).flat = true := fl_vListX
theorem fl_vXs {l : List X} : (vXs l).flat = true := fl_vListX
theorem canon_vStrs {ns : List Str} : keepK (vStrs ns) = some (vStrs ns) := keep_vList
theorem canon_vXs {l : List X} : keepK (vXs l) = some (vXs l) := keep_vList
theorem vStrs_nil : vStrs [] = .lst 0 0 true [] := rfl
theorem four_flat {k : Int} {t : Str} {ns : List Str} {a : List X} : [AV.int .i64 k, .str t, vStrs ns, vXs a].all AV.flat = true := by
  simp only [List.all_cons, List.all_nil, fl_vStrs, fl_vXs, fl_int, fl_str, Bool.and_true]
theorem X.flat (x : X) : x.cells.all AV.flat = true := by cases x; rw [X.cells_mk]; exact four_flat
set_option linter.defProp false in
def XS := And.intro (And.intro @canon_vStrs @canon_vXs) <| And.intro @X.v_mk (And.intro @X.cells_mk (And.intro @X.shut (And.intro @X.shutA (And.intro @fl_vStrs (And.intro @fl_vXs (And.intro @len_vStrs (And.intro @len_vXs (And.intro @shutC_vStrs (And.intro @shutC_vXs (And.intro @shutV_vStrs @shutV_vXs))))))))))
def lies4 (t c o : Nat) : Bool := (Nat.beq t 67 && Nat.beq c 2 && Nat.beq o 0) || (Nat.beq t 69 && Nat.beq c 3 && Nat.beq o 1)
def own5 (f : FuncId) : Option (List AV → Heap → R) :=
  bif Nat.beq f 12 then some (fun _ _ => none) else bif Nat.beq f 95 then some (ownCheck lies4) else bif Nat.beq f 28 then some ownString else bif Nat.beq f 124 then some (ownClone 1 8)
  else bif Nat.beq f 147 then some ownItoa else bif Nat.beq f 148 then some ownRepeat else none
def mode5 : FuncId → Nat
  | 21 | 22 | 23 | 39 | 44 => 1
  | 24 | 26 | 27 | 45 | 46 | 47 | 48 | 49 | 50 | 51 | 52 | 29 | 30 | 31 | 54 | 55 | 56 | 57 | 58 | 59 | 60 | 62 | 63 | 76 | 78 | 82 | 83 => 0
  | 64 | 65 | 84 | 86 | 67 | 70 | 114 | 158 | 159 | 160 | 69 | 71 | 72 | 92 | 113 | 115 | 117 | 138 | 143 | 144 | 145 => 0
  | _ => 2
noncomputable def P5 : Prg := slimPrg Tryz.prog own5 mode5
theorem cl7 {n : Nat} {caps xs : List AV} {H : Heap} : callV (callN P5 n) (.func 7 caps) xs H = callS P5 n 7 (mapHM shutV (xs ++ caps) H) := callV_s rfl rfl
theorem cl8 {n : Nat} {caps xs : List AV} {H : Heap} : callV (callN P5 n) (.func 8 caps) xs H = callS P5 n 8 (mapHM shutV (xs ++ caps) H) := callV_s rfl rfl
theorem cl9 {n : Nat} {caps xs : List AV} {H : Heap} : callV (callN P5 n) (.func 9 caps) xs H = callS P5 n 9 (mapHM shutV (xs ++ caps) H) := callV_s rfl rfl
theorem cl10 {n : Nat} {caps xs : List AV} {H : Heap} : callV (callN P5 n) (.func 10 caps) xs H = callS P5 n 10 (mapHM shutV (xs ++ caps) H) := callV_s rfl rfl
theorem cl11 {n : Nat} {caps xs : List AV} {H : Heap} : callV (callN P5 n) (.func 11 caps) xs H = callS P5 n 11 (mapHM shutV (xs ++ caps) H) := callV_s rfl rfl
theorem cl12 {n : Nat} {caps xs : List AV} {H : Heap} : callV (callN P5 n) (.func 12 caps) xs H = callN P5 n 12 (xs ++ caps) H := rfl
theorem cl13 {n : Nat} {caps xs : List AV} {H : Heap} : callV (callN P5 n) (.func 13 caps) xs H = callS P5 n 13 (mapHM shutV (xs ++ caps) H) := callV_s rfl rfl
theorem cl18 {n : Nat} {caps xs : List AV} {H : Heap} : callV (callN P5 n) (.func 18 caps) xs H = callS P5 n 18 (mapHM shutV (xs ++ caps) H) := callV_s rfl rfl
theorem cl19 {n : Nat} {caps xs : List AV} {H : Heap} : callV (callN P5 n) (.func 19 caps) xs H = callS P5 n 19 (mapHM shutV (xs ++ caps) H) := callV_s rfl rfl
theorem cl20 {n : Nat} {caps xs : List AV} {H : Heap} : callV (callN P5 n) (.func 20 caps) xs H = callS P5 n 20 (mapHM shutV (xs ++ caps) H) := callV_s rfl rfl
theorem cl21 {n : Nat} {caps xs : List AV} {H : Heap} : callV (callN P5 n) (.func 21 caps) xs H = call1S P5 n 21 (mapHM softV (xs ++ caps) H) := callV_1 rfl rfl
theorem cl22 {n : Nat} {caps xs : List AV} {H : Heap} : callV (callN P5 n) (.func 22 caps) xs H = call1S P5 n 22 (mapHM softV (xs ++ caps) H) := callV_1 rfl rfl
theorem cl23 {n : Nat} {caps xs : List AV} {H : Heap} : callV (callN P5 n) (.func 23 caps) xs H = call1S P5 n 23 (mapHM softV (xs ++ caps) H) := callV_1 rfl rfl
theorem cl24 {n : Nat} {caps xs : List AV} {H : Heap} : callV (callN P5 n) (.func 24 caps) xs H = callN P5 n 24 (xs ++ caps) H := rfl
theorem cl25 {n : Nat} {caps xs : List AV} {H : Heap} : callV (callN P5 n) (.func 25 caps) xs H = callS P5 n 25 (mapHM shutV (xs ++ caps) H) := callV_s rfl rfl
theorem cl26 {n : Nat} {caps xs : List AV} {H : Heap} : callV (callN P5 n) (.func 26 caps) xs H = callN P5 n 26 (xs ++ caps) H := rfl
theorem cl27 {n : Nat} {caps xs : List AV} {H : Heap} : callV (callN P5 n) (.func 27 caps) xs H = callN P5 n 27 (xs ++ caps) H := rfl
theorem cl28 {n : Nat} {caps xs : List AV} {H : Heap} : callV (callN P5 n) (.func 28 caps) xs H = callN P5 n 28 (xs ++ caps) H := rfl
theorem cl29 {n : Nat} {caps xs : List AV} {H : Heap} : callV (callN P5 n) (.func 29 caps) xs H = callN P5 n 29 (xs ++ caps) H := rfl
theorem cl30 {n : Nat} {caps xs : List AV} {H : Heap} : callV (callN P5 n) (.func 30 caps) xs H = callN P5 n 30 (xs ++ caps) H := rfl
theorem cl31 {n : Nat} {caps xs : List AV} {H : Heap} : callV (callN P5 n) (.func 31 caps) xs H = callN P5 n 31 (xs ++ caps) H := rfl
theorem cl37 {n : Nat} {caps xs : List AV} {H : Heap} : callV (callN P5 n) (.func 37 caps) xs H = callS P5 n 37 (mapHM shutV (xs ++ caps) H) := callV_s rfl rfl
theorem cl38 {n : Nat} {caps xs : List AV} {H : Heap} : callV (callN P5 n) (.func 38 caps) xs H = callS P5 n 38 (mapHM shutV (xs ++ caps) H) := callV_s rfl rfl
theorem cl39 {n : Nat} {caps xs : List AV} {H : Heap} : callV (callN P5 n) (.func 39 caps) xs H = call1S P5 n 39 (mapHM softV (xs ++ caps) H) := callV_1 rfl rfl
theorem cl40 {n : Nat} {caps xs : List AV} {H : Heap} : callV (callN P5 n) (.func 40 caps) xs H = callS P5 n 40 (mapHM shutV (xs ++ caps) H) := callV_s rfl rfl
theorem cl41 {n : Nat} {caps xs : List AV} {H : Heap} : callV (callN P5 n) (.func 41 caps) xs H = callS P5 n 41 (mapHM shutV (xs ++ caps) H) := callV_s rfl rfl
theorem cl42 {n : Nat} {caps xs : List AV} {H : Heap} : callV (callN P5 n) (.func 42 caps) xs H = callS P5 n 42 (mapHM shutV (xs ++ caps) H) := callV_s rfl rfl
theorem cl43 {n : Nat} {caps xs : List AV} {H : Heap} : callV (callN P5 n) (.func 43 caps) xs H = callS P5 n 43 (mapHM shutV (xs ++ caps) H) := callV_s rfl rfl
theorem cl44 {n : Nat} {caps xs : List AV} {H : Heap} : callV (callN P5 n) (.func 44 caps) xs H = call1S P5 n 44 (mapHM softV (xs ++ caps) H) := callV_1 rfl rfl
theorem cl45 {n : Nat} {caps xs : List AV} {H : Heap} : callV (callN P5 n) (.func 45 caps) xs H = callN P5 n 45 (xs ++ caps) H := rfl
theorem cl46 {n : Nat} {caps xs : List AV} {H : Heap} : callV (callN P5 n) (.func 46 caps) xs H = callN P5 n 46 (xs ++ caps) H := rfl
theorem cl47 {n : Nat} {caps xs : List AV} {H : Heap} : callV (callN P5 n) (.func 47 caps) xs H = callN P5 n 47 (xs ++ caps) H := rfl
theorem cl48 {n : Nat} {caps xs : List AV} {H : Heap} : callV (callN P5 n) (.func 48 caps) xs H = callN P5 n 48 (xs ++ caps) H := rfl
theorem cl49 {n : Nat} {caps xs : List AV} {H : Heap} : callV (callN P5 n) (.func 49 caps) xs H = callN P5 n 49 (xs ++ caps) H := rfl
theorem cl50 {n : Nat} {caps xs : List AV} {H : Heap} : callV (callN P5 n) (.func 50 caps) xs H = callN P5 n 50 (xs ++ caps) H := rfl
theorem cl51 {n : Nat} {caps xs : List AV} {H : Heap} : callV (callN P5 n) (.func 51 caps) xs H = callN P5 n 51 (xs ++ caps) H := rfl
theorem cl52 {n : Nat} {caps xs : List AV} {H : Heap} : callV (callN P5 n) (.func 52 caps) xs H = callN P5 n 52 (xs ++ caps) H := rfl
theorem cl53 {n : Nat} {caps xs : List AV} {H : Heap} : callV (callN P5 n) (.func 53 caps) xs H = callS P5 n 53 (mapHM shutV (xs ++ caps) H) := callV_s rfl rfl
theorem cl54 {n : Nat} {caps xs : List AV} {H : Heap} : callV (callN P5 n) (.func 54 caps) xs H = callN P5 n 54 (xs ++ caps) H := rfl
theorem cl55 {n : Nat} {caps xs : List AV} {H : Heap} : callV (callN P5 n) (.func 55 caps) xs H = callN P5 n 55 (xs ++ caps) H := rfl
theorem cl56 {n : Nat} {caps xs : List AV} {H : Heap} : callV (callN P5 n) (.func 56 caps) xs H = callN P5 n 56 (xs ++ caps) H := rfl
theorem cl57 {n : Nat} {caps xs : List AV} {H : Heap} : callV (callN P5 n) (.func 57 caps) xs H = callN P5 n 57 (xs ++ caps) H := rfl
theorem cl58 {n : Nat} {caps xs : List AV} {H : Heap} : callV (callN P5 n) (.func 58 caps) xs H = callN P5 n 58 (xs ++ caps) H := rfl
theorem cl59 {n : Nat} {caps xs : List AV} {H : Heap} : callV (callN P5 n) (.func 59 caps) xs H = callN P5 n 59 (xs ++ caps) H := rfl
theorem cl60 {n : Nat} {caps xs : List AV} {H : Heap} : callV (callN P5 n) (.func 60 caps) xs H = callN P5 n 60 (xs ++ caps) H := rfl
theorem cl61 {n : Nat} {caps xs : List AV} {H : Heap} : callV (callN P5 n) (.func 61 caps) xs H = callS P5 n 61 (mapHM shutV (xs ++ caps) H) := callV_s rfl rfl
theorem cl62 {n : Nat} {caps xs : List AV} {H : Heap} : callV (callN P5 n) (.func 62 caps) xs H = callN P5 n 62 (xs ++ caps) H := rfl
theorem cl63 {n : Nat} {caps xs : List AV} {H : Heap} : callV (callN P5 n) (.func 63 caps) xs H = callN P5 n 63 (xs ++ caps) H := rfl
theorem cl74 {n : Nat} {caps xs : List AV} {H : Heap} : callV (callN P5 n) (.func 74 caps) xs H = callS P5 n 74 (mapHM shutV (xs ++ caps) H) := callV_s rfl rfl
theorem cl75 {n : Nat} {caps xs : List AV} {H : Heap} : callV (callN P5 n) (.func 75 caps) xs H = callS P5 n 75 (mapHM shutV (xs ++ caps) H) := callV_s rfl rfl
theorem cl76 {n : Nat} {caps xs : List AV} {H : Heap} : callV (callN P5 n) (.func 76 caps) xs H = callN P5 n 76 (xs ++ caps) H := rfl
theorem cl77 {n : Nat} {caps xs : List AV} {H : Heap} : callV (callN P5 n) (.func 77 caps) xs H = callS P5 n 77 (mapHM shutV (xs ++ caps) H) := callV_s rfl rfl
theorem cl78 {n : Nat} {caps xs : List AV} {H : Heap} : callV (callN P5 n) (.func 78 caps) xs H = callN P5 n 78 (xs ++ caps) H := rfl
theorem cl79 {n : Nat} {caps xs : List AV} {H : Heap} : callV (callN P5 n) (.func 79 caps) xs H = callS P5 n 79 (mapHM shutV (xs ++ caps) H) := callV_s rfl rfl
theorem cl80 {n : Nat} {caps xs : List AV} {H : Heap} : callV (callN P5 n) (.func 80 caps) xs H = callS P5 n 80 (mapHM shutV (xs ++ caps) H) := callV_s rfl rfl
theorem cl81 {n : Nat} {caps xs : List AV} {H : Heap} : callV (callN P5 n) (.func 81 caps) xs H = callS P5 n 81 (mapHM shutV (xs ++ caps) H) := callV_s rfl rfl
theorem cl82 {n : Nat} {caps xs : List AV} {H : Heap} : callV (callN P5 n) (.func 82 caps) xs H = callN P5 n 82 (xs ++ caps) H := rfl
theorem cl83 {n : Nat} {caps xs : List AV} {H : Heap} : callV (callN P5 n) (.func 83 caps) xs H = callN P5 n 83 (xs ++ caps) H := rfl
theorem cl95 {n : Nat} {caps xs : List AV} {H : Heap} : callV (callN P5 n) (.func 95 caps) xs H = callN P5 n 95 (xs ++ caps) H := rfl
theorem cl96 {n : Nat} {caps xs : List AV} {H : Heap} : callV (callN P5 n) (.func 96 caps) xs H = callS P5 n 96 (mapHM shutV (xs ++ caps) H) := callV_s rfl rfl
theorem cl97 {n : Nat} {caps xs : List AV} {H : Heap} : callV (callN P5 n) (.func 97 caps) xs H = callS P5 n 97 (mapHM shutV (xs ++ caps) H) := callV_s rfl rfl
theorem cl98 {n : Nat} {caps xs : List AV} {H : Heap} : callV (callN P5 n) (.func 98 caps) xs H = callS P5 n 98 (mapHM shutV (xs ++ caps) H) := callV_s rfl rfl
theorem cl99 {n : Nat} {caps xs : List AV} {H : Heap} : callV (callN P5 n) (.func 99 caps) xs H = callS P5 n 99 (mapHM shutV (xs ++ caps) H) := callV_s rfl rfl
theorem cl100 {n : Nat} {caps xs : List AV} {H : Heap} : callV (callN P5 n) (.func 100 caps) xs H = callS P5 n 100 (mapHM shutV (xs ++ caps) H) := callV_s rfl rfl
theorem cl101 {n : Nat} {caps xs : List AV} {H : Heap} : callV (callN P5 n) (.func 101 caps) xs H = callS P5 n 101 (mapHM shutV (xs ++ caps) H) := callV_s rfl rfl
theorem cl102 {n : Nat} {caps xs : List AV} {H : Heap} : callV (callN P5 n) (.func 102 caps) xs H = callS P5 n 102 (mapHM shutV (xs ++ caps) H) := callV_s rfl rfl
theorem cl103 {n : Nat} {caps xs : List AV} {H : Heap} : callV (callN P5 n) (.func 103 caps) xs H = callS P5 n 103 (mapHM shutV (xs ++ caps) H) := callV_s rfl rfl
theorem cl104 {n : Nat} {caps xs : List AV} {H : Heap} : callV (callN P5 n) (.func 104 caps) xs H = callS P5 n 104 (mapHM shutV (xs ++ caps) H) := callV_s rfl rfl
theorem cl105 {n : Nat} {caps xs : List AV} {H : Heap} : callV (callN P5 n) (.func 105 caps) xs H = callS P5 n 105 (mapHM shutV (xs ++ caps) H) := callV_s rfl rfl
theorem cl118 {n : Nat} {caps xs : List AV} {H : Heap} : callV (callN P5 n) (.func 118 caps) xs H = callS P5 n 118 (mapHM shutV (xs ++ caps) H) := callV_s rfl rfl
theorem cl119 {n : Nat} {caps xs : List AV} {H : Heap} : callV (callN P5 n) (.func 119 caps) xs H = callS P5 n 119 (mapHM shutV (xs ++ caps) H) := callV_s rfl rfl
theorem cl120 {n : Nat} {caps xs : List AV} {H : Heap} : callV (callN P5 n) (.func 120 caps) xs H = callS P5 n 120 (mapHM shutV (xs ++ caps) H) := callV_s rfl rfl
theorem cl121 {n : Nat} {caps xs : List AV} {H : Heap} : callV (callN P5 n) (.func 121 caps) xs H = callS P5 n 121 (mapHM shutV (xs ++ caps) H) := callV_s rfl rfl
theorem cl122 {n : Nat} {caps xs : List AV} {H : Heap} : callV (callN P5 n) (.func 122 caps) xs H = callS P5 n 122 (mapHM shutV (xs ++ caps) H) := callV_s rfl rfl
theorem cl123 {n : Nat} {caps xs : List AV} {H : Heap} : callV (callN P5 n) (.func 123 caps) xs H = callS P5 n 123 (mapHM shutV (xs ++ caps) H) := callV_s rfl rfl
theorem cl124 {n : Nat} {caps xs : List AV} {H : Heap} : callV (callN P5 n) (.func 124 caps) xs H = callN P5 n 124 (xs ++ caps) H := rfl
theorem cl125 {n : Nat} {caps xs : List AV} {H : Heap} : callV (callN P5 n) (.func 125 caps) xs H = callS P5 n 125 (mapHM shutV (xs ++ caps) H) := callV_s rfl rfl
theorem cl126 {n : Nat} {caps xs : List AV} {H : Heap} : callV (callN P5 n) (.func 126 caps) xs H = callS P5 n 126 (mapHM shutV (xs ++ caps) H) := callV_s rfl rfl
theorem cl127 {n : Nat} {caps xs : List AV} {H : Heap} : callV (callN P5 n) (.func 127 caps) xs H = callS P5 n 127 (mapHM shutV (xs ++ caps) H) := callV_s rfl rfl
theorem cl128 {n : Nat} {caps xs : List AV} {H : Heap} : callV (callN P5 n) (.func 128 caps) xs H = callS P5 n 128 (mapHM shutV (xs ++ caps) H) := callV_s rfl rfl
theorem cl129 {n : Nat} {caps xs : List AV} {H : Heap} : callV (callN P5 n) (.func 129 caps) xs H = callS P5 n 129 (mapHM shutV (xs ++ caps) H) := callV_s rfl rfl
theorem cl130 {n : Nat} {caps xs : List AV} {H : Heap} : callV (callN P5 n) (.func 130 caps) xs H = callS P5 n 130 (mapHM shutV (xs ++ caps) H) := callV_s rfl rfl
theorem cl131 {n : Nat} {caps xs : List AV} {H : Heap} : callV (callN P5 n) (.func 131 caps) xs H = callS P5 n 131 (mapHM shutV (xs ++ caps) H) := callV_s rfl rfl
theorem cl132 {n : Nat} {caps xs : List AV} {H : Heap} : callV (callN P5 n) (.func 132 caps) xs H = callS P5 n 132 (mapHM shutV (xs ++ caps) H) := callV_s rfl rfl
theorem cl133 {n : Nat} {caps xs : List AV} {H : Heap} : callV (callN P5 n) (.func 133 caps) xs H = callS P5 n 133 (mapHM shutV (xs ++ caps) H) := callV_s rfl rfl
theorem cl134 {n : Nat} {caps xs : List AV} {H : Heap} : callV (callN P5 n) (.func 134 caps) xs H = callS P5 n 134 (mapHM shutV (xs ++ caps) H) := callV_s rfl rfl
theorem cl146 {n : Nat} {caps xs : List AV} {H : Heap} : callV (callN P5 n) (.func 146 caps) xs H = callS P5 n 146 (mapHM shutV (xs ++ caps) H) := callV_s rfl rfl
theorem cl147 {n : Nat} {caps xs : List AV} {H : Heap} : callV (callN P5 n) (.func 147 caps) xs H = callN P5 n 147 (xs ++ caps) H := rfl
theorem cl148 {n : Nat} {caps xs : List AV} {H : Heap} : callV (callN P5 n) (.func 148 caps) xs H = callN P5 n 148 (xs ++ caps) H := rfl
theorem cl149 {n : Nat} {caps xs : List AV} {H : Heap} : callV (callN P5 n) (.func 149 caps) xs H = callS P5 n 149 (mapHM shutV (xs ++ caps) H) := callV_s rfl rfl
theorem cl150 {n : Nat} {caps xs : List AV} {H : Heap} : callV (callN P5 n) (.func 150 caps) xs H = callS P5 n 150 (mapHM shutV (xs ++ caps) H) := callV_s rfl rfl
theorem cl151 {n : Nat} {caps xs : List AV} {H : Heap} : callV (callN P5 n) (.func 151 caps) xs H = callS P5 n 151 (mapHM shutV (xs ++ caps) H) := callV_s rfl rfl
theorem cl152 {n : Nat} {caps xs : List AV} {H : Heap} : callV (callN P5 n) (.func 152 caps) xs H = callS P5 n 152 (mapHM shutV (xs ++ caps) H) := callV_s rfl rfl
theorem cl161 {n : Nat} {caps xs : List AV} {H : Heap} : callV (callN P5 n) (.func 161 caps) xs H = callS P5 n 161 (mapHM shutV (xs ++ caps) H) := callV_s rfl rfl
theorem cl162 {n : Nat} {caps xs : List AV} {H : Heap} : callV (callN P5 n) (.func 162 caps) xs H = callS P5 n 162 (mapHM shutV (xs ++ caps) H) := callV_s rfl rfl
theorem cl163 {n : Nat} {caps xs : List AV} {H : Heap} : callV (callN P5 n) (.func 163 caps) xs H = callS P5 n 163 (mapHM shutV (xs ++ caps) H) := callV_s rfl rfl
theorem cl164 {n : Nat} {caps xs : List AV} {H : Heap} : callV (callN P5 n) (.func 164 caps) xs H = callS P5 n 164 (mapHM shutV (xs ++ caps) H) := callV_s rfl rfl
theorem cl165 {n : Nat} {caps xs : List AV} {H : Heap} : callV (callN P5 n) (.func 165 caps) xs H = callS P5 n 165 (mapHM shutV (xs ++ caps) H) := callV_s rfl rfl
theorem cl166 {n : Nat} {caps xs : List AV} {H : Heap} : callV (callN P5 n) (.func 166 caps) xs H = callS P5 n 166 (mapHM shutV (xs ++ caps) H) := callV_s rfl rfl
set_option linter.defProp false in
def CL := (And.intro (And.intro (And.intro (And.intro (And.intro (And.intro @cl7 (And.intro @cl8 @cl9)) (And.intro @cl10 (And.intro @cl11 @cl12))) (And.intro (And.intro @cl13 (And.intro @cl18 @cl19)) (And.intro @cl20 (And.intro @cl21 @cl22)))) (And.intro (And.intro (And.intro @cl23 (And.intro @cl24 @cl25)) (And.intro @cl26 (And.intro @cl27 @cl28))) (And.intro (And.intro @cl29 (And.intro @cl30 @cl31)) (And.intro @cl37 (And.intro @cl38 @cl39))))) (And.intro (And.intro (And.intro (And.intro @cl40 (And.intro @cl41 @cl42)) (And.intro @cl43 (And.intro @cl44 @cl45))) (And.intro (And.intro @cl46 (And.intro @cl47 @cl48)) (And.intro @cl49 (And.intro @cl50 @cl51)))) (And.intro (And.intro (And.intro @cl52 (And.intro @cl53 @cl54)) (And.intro @cl55 (And.intro @cl56 @cl57))) (And.intro (And.intro @cl58 (And.intro @cl59 @cl60)) (And.intro (And.intro @cl61 @cl62) (And.intro @cl63 @cl74)))))) (And.intro (And.intro (And.intro (And.intro (And.intro @cl75 (And.intro @cl76 @cl77)) (And.intro @cl78 (And.intro @cl79 @cl80))) (And.intro (And.intro @cl81 (And.intro @cl82 @cl83)) (And.intro @cl95 (And.intro @cl96 @cl97)))) (And.intro (And.intro (And.intro @cl98 (And.intro @cl99 @cl100)) (And.intro @cl101 (And.intro @cl102 @cl103))) (And.intro (And.intro @cl104 (And.intro @cl105 @cl118)) (And.intro (And.intro @cl119 @cl120) (And.intro @cl121 @cl122))))) (And.intro (And.intro (And.intro (And.intro @cl123 (And.intro @cl124 @cl125)) (And.intro @cl126 (And.intro @cl127 @cl128))) (And.intro (And.intro @cl129 (And.intro @cl130 @cl131)) (And.intro @cl132 (And.intro @cl133 @cl134)))) (And.intro (And.intro (And.intro @cl146 (And.intro @cl147 @cl148)) (And.intro @cl149 (And.intro @cl150 @cl151))) (And.intro (And.intro @cl152 (And.intro @cl161 @cl162)) (And.intro (And.intro @cl163 @cl164) (And.intro @cl165 @cl166)))))))
def within (a n : Int) : Int := if a.tmod n < 0 then IntKind.i64.wrap (a.tmod n + n) else a.tmod n
end Go.Lite

/-
  Lists of numbers as the interpreter's values; seat r3's program as the interpreter takes it.
-/
namespace Go.Lite
open Go Go.Proofs
def nat1 (n : Nat) : List AV := [.int .i64 (n : Int)]
theorem nat1_len (n : Nat) : (nat1 n).length = 1 := rfl
theorem nat1_still (n : Nat) : Still (nat1 n) := Still.int _ _
theorem nat1_flat (n : Nat) : (nat1 n).all AV.flat = true := rfl
def vN (f : Bool) (l : List Nat) : AV := vList f 1 nat1 l
theorem vN_nil {f : Bool} : vN f [] = .lst 0 0 f [] := rfl
theorem len_vN {f : Bool} {l : List Nat} : lenM (vN f l) = some (.int .i64 l.length) := len_vList
theorem shutC_vN {f : Bool} {d : Nat} {l : List Nat} {H : Heap} : shutC d (vN f l) H = some (vN f l, H) := shutC_vList
theorem shutV_vN {f : Bool} {l : List Nat} {H : Heap} : shutV (vN f l) H = some (vN f l, H) := shutV_vList
theorem shutA_vN {f : Bool} {l : List Nat} {H : Heap} : shutA (vN f l) H = some (vN f l, H) := shutA_vList
theorem softV_vN {f : Bool} {l : List Nat} {H : Heap} : softV (vN f l) H = some (vN f l, H) := softV_vList
theorem fl_vN {f : Bool} {l : List Nat} : (vN f l).flat = true := by cases l <;> rfl
theorem keep_vN {f : Bool} {l : List Nat} : keepK (vN f l) = some (vN f l) := keep_vList
theorem iaddr_vN {f : Bool} {l : List Nat} {j x : Nat} (h : l[j]? = some x) : iaddrV 1 (vN f l) j = some (.ptr (.val [.int .i64 (x : Int)]) 0) := iaddr_at nat1_len h
theorem taken_vN {f : Bool} {l : List Nat} {H : Heap} : taken 1 H (vN f l) = some (l.length, l.flatMap nat1) := taken_vList
set_option linter.defProp false in
def BS := And.intro @len_vN (And.intro @shutC_vN (And.intro @shutV_vN (And.intro @shutA_vN (And.intro @softV_vN (And.intro @fl_vN (And.intro @keep_vN @taken_vN))))))
theorem loop_gen {call : CallF} {n m : Nat} {c : SCode} {fr : Fr} {H : Heap} {KK : Ex → Fr → Heap → R} {Q : AV → Heap → Prop} (J : Ex → Fr → Heap → Prop) (hfin : ∀ e fr H, J e fr H → Gives (KK e fr H) Q)
    (hl : ∀ KK' : Ex → Fr → Heap → R, (∀ e fr H, J e fr H → Gives (KK' e fr H) Q) → Gives (loopR call n c m fr H KK') Q) : Gives (loopR call n c m fr H KK) Q := hl KK hfin
theorem within_range (a : Int) {b : Int} (h0 : 0 < b) (h1 : b ≤ 4611686018427387904) : 0 ≤ within a b ∧ within a b < b := by
  unfold within
  have h2 : a.tmod b < b := Int.tmod_lt_of_pos a h0
  have h3 : -b < a.tmod b := Int.lt_tmod_of_pos a h0
  split
  · rw [wrap64 (by omega) (by omega)]; omega
  · omega
end Go.Lite

/-
  A sign ahead of a text; the texts that are right.
-/
namespace Go.Lite
open Go Go.Proofs
def negS : Str → Bool
  | c :: _ => c == 45
  | [] => false
def cutS : Str → Str
  | c :: s => if c = 45 then s else c :: s
  | [] => []
theorem cutS_len (s : Str) : (cutS s).length ≤ s.length := by
  cases s with
  | nil => simp [cutS]
  | cons c s => simp only [cutS]; split <;> simp
theorem pre56 (s : Str) (hs : s.length ≤ 4611686018427387904) : Ret P5 166 [.str s, .str [45]] (.bool (negS s)) := by
  refine Ret.of rfl (code166 _ _) rfl rfl (fun H => by simp -implicitDefEqProofs only [↓v_lenS, ZZ, Nat.reduceBEq, reduceIte, Nat.reduceAdd, Nat.reduceLeDiff, Nat.reduceEqDiff, Nat.reduceBneDiff]) (Ev.of fun n H => ?_)
  cases s with
  | nil =>
    have h0 : ¬ ((0 : Nat) : Int) ≥ ((1 : Nat) : Int) := by omega
    simp -implicitDefEqProofs only [c166, ↓v_lenS, ZZ, Nat.reduceBEq, reduceIte, Nat.reduceAdd, Nat.reduceLeDiff, Nat.reduceEqDiff, Nat.reduceBneDiff, h0, negS, Ends, gives_ret]
    exact ⟨_, rfl⟩
  | cons c s =>
    have hl : ((s.length + 1 : Nat) : Int) ≥ ((0 + 1 : Nat) : Int) := by omega
    have h1 : 0 + 1 ≤ s.length + 1 := by omega
    by_cases hc : c = 45
    · subst hc
      simp -implicitDefEqProofs only [c166, ↓v_lenS, ZZ, Nat.reduceBEq, reduceIte, Nat.reduceAdd, Nat.reduceLeDiff, Nat.reduceEqDiff, Nat.reduceBneDiff, negS, Ends, gives_ret, hl, h1]
      exact ⟨_, rfl⟩
    · have h2 : (c == 45) = false := by simpa using hc
      have h3 : ([c] == [45]) = false := by simpa using hc
      simp -implicitDefEqProofs only [c166, ↓v_lenS, ZZ, Nat.reduceBEq, reduceIte, Nat.reduceAdd, Nat.reduceLeDiff, Nat.reduceEqDiff, Nat.reduceBneDiff, negS, Ends, gives_ret, hl, h1, h2, h3]
      exact ⟨_, rfl⟩
theorem cut46 (s : Str) (hs : s.length ≤ 4611686018427387904) : Ret P5 161 [.str s, .str [45]] (.tuple [.str (cutS s), .bool (negS s)]) := by
  refine Ret.of rfl (code161 _ _) rfl rfl (fun H => by simp -implicitDefEqProofs only [↓v_lenS, ZZ, Nat.reduceBEq, reduceIte, Nat.reduceAdd, Nat.reduceLeDiff, Nat.reduceEqDiff, Nat.reduceBneDiff]) ((pre56 s hs).mono fun n e1 H => ?_)
  cases s with
  | nil =>
    simp -implicitDefEqProofs only [negS] at e1
    simp -implicitDefEqProofs only [c161, ↓v_lenS, ZZ, Nat.reduceBEq, reduceIte, Nat.reduceAdd, Nat.reduceLeDiff, Nat.reduceEqDiff, Nat.reduceBneDiff, CL, e1, negS, cutS, Ends, gives_ret]
    exact ⟨_, rfl⟩
  | cons c s =>
    have h1 : 0 + 1 ≤ s.length + 1 := by omega
    have h4 : List.take (s.length + 1 - (0 + 1)) s = s := List.take_of_length_le (by omega)
    have h4' : List.take s.length s = s := List.take_of_length_le (by omega)
    by_cases hc : c = 45
    · subst hc
      simp -implicitDefEqProofs only [negS, beq_self_eq_true] at e1
      simp -implicitDefEqProofs only [c161, ↓v_lenS, ZZ, Nat.reduceBEq, reduceIte, Nat.reduceAdd, Nat.reduceLeDiff, Nat.reduceEqDiff, Nat.reduceBneDiff, CL, e1, negS, cutS, Ends, gives_ret, h1, h4, h4', Nat.add_sub_cancel, Nat.le_add_left]
      exact ⟨_, rfl⟩
    · have h2 : (c == 45) = false := by simpa using hc
      simp -implicitDefEqProofs only [negS, h2] at e1
      simp -implicitDefEqProofs only [c161, ↓v_lenS, ZZ, Nat.reduceBEq, reduceIte, Nat.reduceAdd, Nat.reduceLeDiff, Nat.reduceEqDiff, Nat.reduceBneDiff, CL, e1, negS, cutS, Ends, gives_ret, h1, h2, hc]
      exact ⟨_, rfl⟩
theorem cut29 (s : Str) (hs : s.length ≤ 4611686018427387904) : Ret P5 146 [.str s, .str [45]] (.tuple [.str (cutS s), .bool (negS s)]) := by
  refine Ret.of rfl (code146 _ _) rfl rfl (fun H => by simp -implicitDefEqProofs only [↓v_lenS, ZZ, Nat.reduceBEq, reduceIte, Nat.reduceAdd, Nat.reduceLeDiff, Nat.reduceEqDiff, Nat.reduceBneDiff]) ((cut46 s hs).mono fun n e1 H => ?_)
  simp -implicitDefEqProofs only [c146, ↓v_lenS, ZZ, Nat.reduceBEq, reduceIte, Nat.reduceAdd, Nat.reduceLeDiff, Nat.reduceEqDiff, Nat.reduceBneDiff, CL, e1, Ends, gives_ret]
  exact ⟨_, rfl⟩
theorem trim52 (s : Str) (hs : s.length ≤ 4611686018427387904) : Ret P5 149 [.str s, .str [45]] (.str (cutS s)) := by
  refine Ret.of rfl (code149 _ _) rfl rfl (fun H => by simp -implicitDefEqProofs only [↓v_lenS, ZZ, Nat.reduceBEq, reduceIte, Nat.reduceAdd, Nat.reduceLeDiff, Nat.reduceEqDiff, Nat.reduceBneDiff]) ((pre56 s hs).mono fun n e1 H => ?_)
  cases s with
  | nil =>
    simp -implicitDefEqProofs only [negS] at e1
    simp -implicitDefEqProofs only [c149, ↓v_lenS, ZZ, Nat.reduceBEq, reduceIte, Nat.reduceAdd, Nat.reduceLeDiff, Nat.reduceEqDiff, Nat.reduceBneDiff, CL, e1, negS, cutS, Ends, gives_ret]
    exact ⟨_, rfl⟩
  | cons c s =>
    have h1 : 0 + 1 ≤ s.length + 1 := by omega
    have h4 : List.take (s.length + 1 - (0 + 1)) s = s := List.take_of_length_le (by omega)
    have h4' : List.take s.length s = s := List.take_of_length_le (by omega)
    by_cases hc : c = 45
    · subst hc
      simp -implicitDefEqProofs only [negS, beq_self_eq_true] at e1
      simp -implicitDefEqProofs only [c149, ↓v_lenS, ZZ, Nat.reduceBEq, reduceIte, Nat.reduceAdd, Nat.reduceLeDiff, Nat.reduceEqDiff, Nat.reduceBneDiff, CL, e1, negS, cutS, Ends, gives_ret, h1, h4, h4', Nat.add_sub_cancel, Nat.le_add_left]
      exact ⟨_, rfl⟩
    · have h2 : (c == 45) = false := by simpa using hc
      simp -implicitDefEqProofs only [negS, h2] at e1
      simp -implicitDefEqProofs only [c149, ↓v_lenS, ZZ, Nat.reduceBEq, reduceIte, Nat.reduceAdd, Nat.reduceLeDiff, Nat.reduceEqDiff, Nat.reduceBneDiff, CL, e1, negS, cutS, Ends, gives_ret, h1, h2, hc]
      exact ⟨_, rfl⟩
theorem trim36 (s : Str) (hs : s.length ≤ 4611686018427387904) : Ret P5 125 [.str s, .str [45]] (.str (cutS s)) := by
  refine Ret.of rfl (code125 _ _) rfl rfl (fun H => by simp -implicitDefEqProofs only [↓v_lenS, ZZ, Nat.reduceBEq, reduceIte, Nat.reduceAdd, Nat.reduceLeDiff, Nat.reduceEqDiff, Nat.reduceBneDiff]) ((trim52 s hs).mono fun n e1 H => ?_)
  simp -implicitDefEqProofs only [c125, ↓v_lenS, ZZ, Nat.reduceBEq, reduceIte, Nat.reduceAdd, Nat.reduceLeDiff, Nat.reduceEqDiff, Nat.reduceBneDiff, CL, e1, Ends, gives_ret]
  exact ⟨_, rfl⟩
end Go.Lite

/-
  The program's rows of limbs: a limb, a row without noughts, sums.
-/
namespace Go.Lite
open Go Go.Proofs
theorem nats_still (l : List Nat) : Still (l.flatMap nat1) := Still.flat nat1_still l
theorem nats_len (l : List Nat) : (l.flatMap nat1).length = l.length := by rw [flat_len nat1_len, Nat.mul_one]
theorem nats_snoc (l : List Nat) (d : Nat) : (l ++ [d]).flatMap nat1 = l.flatMap nat1 ++ [.int .i64 (d : Int)] := by simp [nat1]
theorem nat_more {N n : Nat} {H : Heap} {out : List Nat} {v : AV} (acc : Acc N H 3 1 n (out.flatMap nat1) v) (low : HLow H) (hN : N ≤ H.n) (d : Nat) (hb : n ≤ 1000000) (ho : out.length = n) :
    ∃ H', appendOf 3 1 8 (H.push (.row [.int .i64 (d : Int)] 0 true none)) v (1, [.int .i64 (d : Int)]) = some (.slice (.new (H.n + 1)) 0 (n + 1) (.gro 1), H') ∧
      Acc N H' 3 1 (n + 1) ((out ++ [d]).flatMap nat1) (.slice (.new (H.n + 1)) 0 (n + 1) (.gro 1)) ∧ HLow H' ∧ H.n ≤ H'.n ∧
      ∀ j cs fz tt, H.t.get j = some (.row cs 0 fz tt) → H'.t.get j = some (.row cs 0 fz tt) := by
  obtain ⟨H7, happ, acc7, kp7, low7, hn7⟩ := (acc.push low (ob := .row [.int .i64 (d : Int)] 0 true none)).one_more (e := 3) (bs := 8) (ys := [.int .i64 (d : Int)]) (by simp only [h_n]; omega) low.push (by decide) rfl rfl (by omega)
  simp only [h_n] at happ acc7 hn7
  exact ⟨H7, happ, by rw [nats_snoc]; exact acc7, low7, by omega, fun j cs fz tt hj => (acc.push low).row (by decide) kp7 (by rw [h_get, if_neg (by have := low j _ hj; omega)]; exact hj)⟩
theorem at34 (f : Bool) (l : List Nat) (i : Nat) : Ret P5 122 [vN f l, .int .i64 (i : Int)] (.int .i64 (atN l i : Nat)) := by
  refine Ret.of rfl (code122 _ _) rfl rfl (fun H => by simp -implicitDefEqProofs only [↓v_lenS, ZZ, Nat.reduceBEq, reduceIte, Nat.reduceAdd, Nat.reduceLeDiff, Nat.reduceEqDiff, Nat.reduceBneDiff, BS]) (Ev.of fun n H => ?_)
  by_cases hi : i < l.length
  · have hlt : (i : Int) < (l.length : Int) := by omega
    simp -implicitDefEqProofs only [c122, ↓v_lenS, ZZ, Nat.reduceBEq, reduceIte, Nat.reduceAdd, Nat.reduceLeDiff, Nat.reduceEqDiff, Nat.reduceBneDiff, BS, hlt, iaddr_vN (atN_at hi), Ends, gives_ret]
    exact ⟨_, rfl⟩
  · have hlt : ¬ (i : Int) < (l.length : Int) := by omega
    rw [atN_ge (by omega)]
    simp -implicitDefEqProofs only [c122, ↓v_lenS, ZZ, Nat.reduceBEq, reduceIte, Nat.reduceAdd, Nat.reduceLeDiff, Nat.reduceEqDiff, Nat.reduceBneDiff, BS, hlt, Ends, gives_ret]
    exact ⟨_, rfl⟩
theorem sign53 (z : Int) : Ret P5 150 [.int .i64 z] (.int .i64 (sgn z)) := by
  refine Ret.of rfl (code150 _ _) rfl rfl (fun H => by simp -implicitDefEqProofs only [↓v_lenS, ZZ, Nat.reduceBEq, reduceIte, Nat.reduceAdd, Nat.reduceLeDiff, Nat.reduceEqDiff, Nat.reduceBneDiff, BS]) (Ev.of fun n H => ?_)
  unfold sgn
  by_cases h1 : z < 0
  · simp -implicitDefEqProofs only [c150, ↓v_lenS, ZZ, Nat.reduceBEq, reduceIte, Nat.reduceAdd, Nat.reduceLeDiff, Nat.reduceEqDiff, Nat.reduceBneDiff, h1, k_blockE, Ends, gives_ret]
    exact ⟨_, rfl⟩
  · by_cases h2 : z > 0
    · have h2' : 0 < z := h2
      simp -implicitDefEqProofs only [c150, ↓v_lenS, ZZ, Nat.reduceBEq, reduceIte, Nat.reduceAdd, Nat.reduceLeDiff, Nat.reduceEqDiff, Nat.reduceBneDiff, h1, h2, h2', if_false, k_blockE, Ends, gives_ret]
      exact ⟨_, rfl⟩
    · have h2' : ¬ 0 < z := h2
      simp -implicitDefEqProofs only [c150, ↓v_lenS, ZZ, Nat.reduceBEq, reduceIte, Nat.reduceAdd, Nat.reduceLeDiff, Nat.reduceEqDiff, Nat.reduceBneDiff, h1, h2, h2', if_false, k_blockE, Ends, gives_ret]
      exact ⟨_, rfl⟩
theorem slice_vN {f : Bool} {l : List Nat} {j : Nat} (hj : j ≤ l.length) :
    ∃ y, sliceOf 1 (vN f l) none (some j) (some j) = some y ∧ ∀ H, shutV y H = some (vN true (l.take j), H) := by
  cases l with
  | nil =>
    obtain rfl : j = 0 := by simpa using hj
    refine ⟨.lst 0 0 true [], ?_, fun H => by rw [List.take_nil, vN_nil, shutV_lstF, L_zero]⟩
    simp only [vN_nil, sliceOf, Option.getD_some, Option.getD_none]
    rw [if_pos ⟨by omega, by omega, by omega, .inr trivial⟩]
    cases f <;> simp
  | cons x l =>
    have h1 : (nat1 x ++ l.flatMap nat1) = (x :: l).flatMap nat1 := by simp
    refine ⟨.lst 1 j true (((x :: l).take j).flatMap nat1), ?_, fun H => ?_⟩
    · simp only [vN, vList_cons, sliceOf, Option.getD_some, Option.getD_none]
      simp only [List.length_cons] at hj
      rw [if_pos ⟨by omega, by omega, by omega, .inl trivial⟩, h1, Nat.zero_mul, List.drop_zero, Nat.sub_zero, flat_take nat1_len]
      simp [Nat.beq_refl]
    · rw [shutV_lstF]
      have hl : ((x :: l).take j).length = j := by rw [List.length_take]; exact Nat.min_eq_left hj
      show some (AV.L true 1 _ j, H) = some (AV.L true 1 _ ((x :: l).take j).length, H)
      rw [hl]
theorem trim_at {l : List Nat} {i : Nat} (h1 : (trimL l).length ≤ i) (h2 : i < l.length) : atN l i = 0 := by
  have key : ∀ l : List Nat, (trimL l).length ≤ i → i < l.length → atN l i = 0 := snoc_ind (P := fun l => (trimL l).length ≤ i → i < l.length → atN l i = 0) (fun _ h => by simp at h) fun l d ih h1 h2 => by
    by_cases hd : d = 0
    · subst hd
      rw [trimL_snoc_zero] at h1
      by_cases hi : i < l.length
      · have := ih h1 hi
        unfold atN at this ⊢
        rw [List.getElem?_append_left hi]; exact this
      · have : i = l.length := by simp at h2; omega
        subst this
        simp [atN]
    · rw [trimL_snoc hd] at h1; omega
  exact key l h1 h2
theorem trim_top {l : List Nat} (h : trimL l ≠ []) : atN l ((trimL l).length - 1) ≠ 0 := by
  rcases trimL_last l with h1 | ⟨a, d, h1, hd⟩
  · exact absurd h1 h
  · have h2 := trimL_take l
    have h3 : (trimL l)[(trimL l).length - 1]? = some d := by rw [h1]; simp
    rw [h2, List.getElem?_take_of_lt (by rw [List.length_take]; have := trimL_len l; have := List.length_pos_iff.2 h; omega)] at h3
    rw [List.length_take, Nat.min_eq_left (trimL_len l)] at h3
    unfold atN
    rw [h3]; exact hd
theorem trim35 (f : Bool) (l : List Nat) (hl : l.length ≤ 1000000) : Ret P5 123 [vN f l] (vN true (trimL l)) := by
  refine Ret.of rfl (code123 _ _) rfl rfl (fun H => by simp -implicitDefEqProofs only [↓v_lenS, ZZ, Nat.reduceBEq, reduceIte, Nat.reduceAdd, Nat.reduceLeDiff, Nat.reduceEqDiff, Nat.reduceBneDiff, BS]) ((Ev.ge (l.length + 2)).mono fun n hge H => ?_)
  have hle := trimL_len l
  simp -implicitDefEqProofs only [c123, ↓v_lenS, ZZ, Nat.reduceBEq, reduceIte, Nat.reduceAdd, Nat.reduceLeDiff, Nat.reduceEqDiff, Nat.reduceBneDiff, BS]
  refine loop_rounds (l.length - (trimL l).length) (fun i fr H => fr 0 = vN f l ∧ fr 3 = .int .i64 (l.length - i : Nat)) ?_ ?_ n 0 _ _ (by omega) (by omega) ⟨?_, ?_⟩
  · rintro i fr H K' hi ⟨h0, h3⟩ hKe hKr hK
    have hgt : ((l.length - i : Nat) : Int) > 0 := by omega
    have hw : IntKind.i64.wrap (((l.length - i : Nat) : Int) - 1) = ((l.length - (i + 1) : Nat) : Int) := by rw [wrap64 (by omega) (by omega)]; omega
    have ha := iaddr_vN (f := f) (atN_at (l := l) (i := l.length - (i + 1)) (by omega))
    rw [trim_at (l := l) (i := l.length - (i + 1)) (by omega) (by omega)] at ha
    have hz : (((0 : Nat) : Int) == 0) = true := rfl
    simp -implicitDefEqProofs only [c123_l0, ↓v_lenS, ZZ, Nat.reduceBEq, reduceIte, Nat.reduceAdd, Nat.reduceLeDiff, Nat.reduceEqDiff, Nat.reduceBneDiff, BS, h0, h3, hgt, hw, ha, hz]
    refine hK _ _ ⟨?_, ?_⟩
    all_goals simp -implicitDefEqProofs only [↓v_lenS, ZZ, Nat.reduceBEq, reduceIte, Nat.reduceAdd, Nat.reduceLeDiff, Nat.reduceEqDiff, Nat.reduceBneDiff, h0]
  · rintro fr H K' ⟨h0, h3⟩ hKe hKr
    have hm : l.length - (l.length - (trimL l).length) = (trimL l).length := by omega
    rw [hm] at h3
    obtain ⟨y, hy, hys⟩ := slice_vN (f := f) (l := l) (j := (trimL l).length) hle
    rw [← trimL_take] at hys
    by_cases hne : trimL l = []
    · have hz : (trimL l).length = 0 := by rw [hne]; rfl
      rw [hz] at h3 hy
      have hgt : ¬ ((0 : Nat) : Int) > 0 := by omega
      simp -implicitDefEqProofs only [c123_l0, ↓v_lenS, ZZ, Nat.reduceBEq, reduceIte, Nat.reduceAdd, Nat.reduceLeDiff, Nat.reduceEqDiff, Nat.reduceBneDiff, BS, h0, h3, hgt, hKe, k_blockE, hy, Ends, gives_ret]
      exact ⟨_, hys _⟩
    · have hp := List.length_pos_iff.2 hne
      have hgt : (((trimL l).length : Nat) : Int) > 0 := by omega
      have hw : IntKind.i64.wrap (((trimL l).length : Int) - 1) = (((trimL l).length - 1 : Nat) : Int) := by rw [wrap64 (by omega) (by omega)]; omega
      have ha := iaddr_vN (f := f) (atN_at (l := l) (i := (trimL l).length - 1) (by omega))
      have hz : (((atN l ((trimL l).length - 1) : Nat) : Int) == 0) = false := by simpa using trim_top hne
      simp -implicitDefEqProofs only [c123_l0, ↓v_lenS, ZZ, Nat.reduceBEq, reduceIte, Nat.reduceAdd, Nat.reduceLeDiff, Nat.reduceEqDiff, Nat.reduceBneDiff, BS, h0, h3, hgt, hw, ha, hz, hKe, k_blockE, hy, Ends, gives_ret]
      exact ⟨_, hys _⟩
  · simp -implicitDefEqProofs only [↓v_lenS, ZZ, Nat.reduceBEq, reduceIte, Nat.reduceAdd, Nat.reduceLeDiff, Nat.reduceEqDiff, Nat.reduceBneDiff]
  · simp -implicitDefEqProofs only [↓v_lenS, ZZ, Nat.reduceBEq, reduceIte, Nat.reduceAdd, Nat.reduceLeDiff, Nat.reduceEqDiff, Nat.reduceBneDiff]
    rfl
abbrev BB : Nat := 1000000000
theorem BB_eq : BB = 1000000000 := rfl
theorem BB2 : 2 ≤ BB := by decide
theorem BBi : ((BB : Nat) : Int) = 1000000000 := rfl
theorem quo_nat {a b : Nat} (hb : 0 < b) (ha : a < 9223372036854775808) : IntKind.i64.wrap ((a : Int).tdiv (b : Int)) = ((a / b : Nat) : Int) := by
  have h2 : a / b ≤ a := Nat.div_le_self a b
  have h3 : (a : Int) / (b : Int) = ((a / b : Nat) : Int) := rfl
  have h4 : (0 : Int) ≤ ((a / b : Nat) : Int) := Int.natCast_nonneg _
  rw [Int.tdiv_eq_ediv_of_nonneg (by omega), h3]
  exact wrap64 (by omega) (by omega)
theorem rem_nat (a b : Nat) : (a : Int).tmod (b : Int) = ((a % b : Nat) : Int) := by
  rw [Int.tmod_eq_emod_of_nonneg (by omega)]; rfl
theorem plus37 (f g : Bool) (x y : List Nat) (hx : Under BB x) (hy : Under BB y) (hlx : x.length ≤ 900000) (hly : y.length ≤ 900000) : Ret P5 126 [vN f x, vN g y] (vN true (limbs BB (lval BB x + lval BB y))) := by
  have mx : ∃ m : Nat, (if (y.length : Int) > (x.length : Int) then (y.length : Int) else (x.length : Int)) = (m : Int) ∧ x.length ≤ m ∧ y.length ≤ m ∧ m ≤ 900000 := by
    split
    · exact ⟨y.length, rfl, by omega, by omega, by omega⟩
    · exact ⟨x.length, rfl, by omega, by omega, by omega⟩
  obtain ⟨m, hm, hm1, hm2, hm3⟩ := mx
  have hok := plusD_ok BB2 hx hy
  have hend := (plusD_end BB2 hx hy (N := m + 1) (by omega) (by omega)).1
  have hres : trimL (plusD BB x y (m + 1)).1 = limbs BB (lval BB x + lval BB y) := by rw [← hend, limbs_trim BB2 (hok _).2.1]
  rw [← hres]
  refine Ret.of rfl (code126 _ _) rfl rfl (fun H => by simp -implicitDefEqProofs only [↓v_lenS, ZZ, Nat.reduceBEq, reduceIte, Nat.reduceAdd, Nat.reduceLeDiff, Nat.reduceEqDiff, Nat.reduceBneDiff, BS]) ?_
  refine ((trim35 true (plusD BB x y (m + 1)).1 (by rw [(hok _).1]; omega)).and ((Ev.all (List.range (m + 1)) fun i _ => (at34 f x i).and (at34 g y i)).and (Ev.ge (m + 2)))).mono fun n e H => ?_
  obtain ⟨e1, e2, hge⟩ := e
  have hwm : IntKind.i64.wrap ((m : Int) + 1) = ((m + 1 : Nat) : Int) := wrap_succ (n := m + 1) (by omega) (by omega)
  simp -implicitDefEqProofs only [c126, ↓v_lenS, ZZ, Nat.reduceBEq, reduceIte, Nat.reduceAdd, Nat.reduceLeDiff, Nat.reduceEqDiff, Nat.reduceBneDiff, BS, hm, hwm]
  refine loop_rounds (m + 1) (fun i fr H => fr 0 = vN f x ∧ fr 1 = vN g y ∧ fr 14 = .int .i64 (m + 1 : Nat) ∧ fr 15 = .int .i64 i ∧ fr 6 = .int .i64 ((plusD BB x y i).2 : Nat) ∧ HLow H ∧ Acc 0 H 3 1 i ((plusD BB x y i).1.flatMap nat1) (fr 5)) ?_ ?_ n 0 _ _ (by omega) (by omega) ?_
  · rintro i fr H K' hi ⟨h0, h1, h14, h15, h6, low, acc⟩ hKe hKr hK
    obtain ⟨p1, p2, p3, p4⟩ := hok i
    obtain ⟨e3, e4⟩ := e2 i (List.mem_range.2 hi)
    have hBB := BB_eq
    have a1 := atN_lt (by omega) hx i
    have a2 := atN_lt (by omega) hy i
    have hlt : (i : Int) < ((m + 1 : Nat) : Int) := by omega
    have hw := wrap_succ (i := i) (n := m + 1) hi (by omega)
    have hnx : plusD BB x y (i + 1) = ((plusD BB x y i).1 ++ [(atN x i + atN y i + (plusD BB x y i).2) % BB], (atN x i + atN y i + (plusD BB x y i).2) / BB) := rfl
    rw [hnx] at hK
    generalize (plusD BB x y i).2 = c at *
    generalize (plusD BB x y i).1 = out at *
    have w1 : IntKind.i64.wrap ((atN x i : Int) + (atN y i : Int)) = ((atN x i + atN y i : Nat) : Int) := by rw [wrap64 (by omega) (by omega)]; rfl
    have w2 : IntKind.i64.wrap (((atN x i + atN y i : Nat) : Int) + (c : Int)) = ((atN x i + atN y i + c : Nat) : Int) := by rw [wrap64 (by omega) (by omega)]; rfl
    have w3 := quo_nat (a := atN x i + atN y i + c) (b := BB) (by omega) (by omega)
    have w4 := rem_nat (atN x i + atN y i + c) BB
    have w5 : ((1000000000 : Int) == 0) = false := rfl
    have w6 : ¬ (1000000000 : Int) = 0 := by omega
    rw [BBi] at w3 w4
    generalize atN x i + atN y i + c = d at *
    obtain ⟨H7, happ, acc7, low7, hn7, car7⟩ := nat_more acc low (Nat.zero_le _) (d % BB) (by omega) p1
    generalize hv : fr 5 = v at *
    simp -implicitDefEqProofs only [c126_l0, ↓v_lenS, ZZ, Nat.reduceBEq, reduceIte, Nat.reduceAdd, Nat.reduceLeDiff, Nat.reduceEqDiff, Nat.reduceBneDiff, CL, BS, h0, h1, h14, h15, h6, hv, hlt, hw, e3, e4, w1, w2, w3, w4, w5, w6, acc.flat, happ]
    refine hK _ _ ⟨?_, ?_, ?_, ?_, ?_, low7, ?_⟩
    all_goals simp -implicitDefEqProofs only [↓v_lenS, ZZ, Nat.reduceBEq, reduceIte, Nat.reduceAdd, Nat.reduceLeDiff, Nat.reduceEqDiff, Nat.reduceBneDiff, h0, h1, h14]
    exact acc7
  · rintro fr H K' ⟨h0, h1, h14, h15, h6, low, acc⟩ hKe hKr
    obtain ⟨H', hs, kp⟩ := acc.shutV (by decide) (nats_still _)
    have hs' : shutV (fr 5) H = some (vN true (plusD BB x y (m + 1)).1, H') := by
      rw [hs]; show some (AV.L true 1 _ (m + 1), H') = some (AV.L true 1 _ (plusD BB x y (m + 1)).1.length, H'); rw [(hok _).1]
    simp -implicitDefEqProofs only [c126_l0, ↓v_lenS, ZZ, Nat.reduceBEq, reduceIte, Nat.reduceAdd, Nat.reduceLeDiff, Nat.reduceEqDiff, Nat.reduceBneDiff, CL, BS, h0, h1, h14, h15, Int.lt_irrefl, hKe, k_blockE, hs', e1, gives_ret]
    exact ⟨_, rfl⟩
  · refine ⟨?_, ?_, ?_, ?_, ?_, HLow.bare, ?_⟩
    all_goals simp -implicitDefEqProofs only [↓v_lenS, ZZ, Nat.reduceBEq, reduceIte, Nat.reduceAdd, Nat.reduceLeDiff, Nat.reduceEqDiff, Nat.reduceBneDiff]
    · rfl
    · rfl
    · exact Acc.nil
theorem less39 (f g : Bool) (x y : List Nat) (hx : Under BB x) (hy : Under BB y) (hlx : x.length ≤ 900000) (hly : y.length ≤ x.length) (hle : lval BB y ≤ lval BB x) : Ret P5 128 [vN f x, vN g y] (vN true (limbs BB (lval BB x - lval BB y))) := by
  have hok := lessD_ok BB2 hx hy
  have hend := lessD_end BB2 hx hy hly hle
  have hres : trimL (lessD BB x y x.length).1 = limbs BB (lval BB x - lval BB y) := by rw [← hend, limbs_trim BB2 (hok _).2.1]
  rw [← hres]
  refine Ret.of rfl (code128 _ _) rfl rfl (fun H => by simp -implicitDefEqProofs only [↓v_lenS, ZZ, Nat.reduceBEq, reduceIte, Nat.reduceAdd, Nat.reduceLeDiff, Nat.reduceEqDiff, Nat.reduceBneDiff, BS]) ?_
  refine ((trim35 true (lessD BB x y x.length).1 (by rw [(hok _).1]; omega)).and ((Ev.all (List.range x.length) fun i _ => at34 g y i).and (Ev.ge (x.length + 2)))).mono fun n e H => ?_
  obtain ⟨e1, e2, hge⟩ := e
  simp -implicitDefEqProofs only [c128, ↓v_lenS, ZZ, Nat.reduceBEq, reduceIte, Nat.reduceAdd, Nat.reduceLeDiff, Nat.reduceEqDiff, Nat.reduceBneDiff, BS]
  refine loop_rounds x.length (fun i fr H => fr 0 = vN f x ∧ fr 1 = vN g y ∧ fr 10 = .int .i64 x.length ∧ fr 11 = .int .i64 i ∧ fr 6 = .int .i64 ((lessD BB x y i).2 : Nat) ∧ HLow H ∧ Acc 0 H 3 1 i ((lessD BB x y i).1.flatMap nat1) (fr 5)) ?_ ?_ n 0 _ _ (by omega) (by omega) ?_
  · rintro i fr H K' hi ⟨h0, h1, h10, h11, h6, low, acc⟩ hKe hKr hK
    obtain ⟨p1, p2, p3, p4⟩ := hok i
    have e4 := e2 i (List.mem_range.2 hi)
    have hBB := BB_eq
    have a1 := atN_lt (by omega) hx i
    have a2 := atN_lt (by omega) hy i
    have hlt : (i : Int) < (x.length : Int) := by omega
    have hw := wrap_succ (i := i) (n := x.length) hi (by omega)
    have ha := iaddr_vN (f := f) (atN_at hi)
    have hnx : lessD BB x y (i + 1) = ((lessD BB x y i).1 ++ [lessE BB (atN x i) (atN y i) (lessD BB x y i).2], lessB (atN x i) (atN y i) (lessD BB x y i).2) := rfl
    rw [hnx] at hK
    generalize (lessD BB x y i).2 = c at *
    generalize (lessD BB x y i).1 = out at *
    generalize atN x i = a at *
    generalize atN y i = b at *
    obtain ⟨H7, happ, acc7, low7, hn7, car7⟩ := nat_more acc low (Nat.zero_le _) (lessE BB a b c) (by omega) p1
    generalize hv : fr 5 = v at *
    have w1 : IntKind.i64.wrap ((a : Int) - (b : Int)) = (a : Int) - b := wrap64 (by omega) (by omega)
    have w2 : IntKind.i64.wrap ((a : Int) - (b : Int) - (c : Int)) = (a : Int) - b - c := wrap64 (by omega) (by omega)
    by_cases hb : b + c ≤ a
    · have hn : ¬ (a : Int) - b - c < 0 := by omega
      have hE : (a : Int) - b - c = ((lessE BB a b c : Nat) : Int) := by unfold lessE; rw [if_pos hb]; omega
      have hB' : lessB a b c = 0 := by unfold lessB; rw [if_pos hb]
      rw [hB'] at hK
      replace w2 := w2.trans hE
      rw [hE] at hn
      simp -implicitDefEqProofs only [c128_l0, ↓v_lenS, ZZ, Nat.reduceBEq, reduceIte, Nat.reduceAdd, Nat.reduceLeDiff, Nat.reduceEqDiff, Nat.reduceBneDiff, CL, BS, h0, h1, h10, h11, h6, hv, hlt, hw, e4, ha, w1, w2, hn, acc.flat, happ]
      refine hK _ _ ⟨?_, ?_, ?_, ?_, ?_, low7, ?_⟩
      all_goals simp -implicitDefEqProofs only [↓v_lenS, ZZ, Nat.reduceBEq, reduceIte, Nat.reduceAdd, Nat.reduceLeDiff, Nat.reduceEqDiff, Nat.reduceBneDiff, h0, h1, h10]
      · rfl
      · exact acc7
    · have hn : (a : Int) - b - c < 0 := by omega
      have hE : IntKind.i64.wrap ((a : Int) - b - c + 1000000000) = ((lessE BB a b c : Nat) : Int) := by
        unfold lessE; rw [if_neg hb, wrap64 (by omega) (by omega)]; omega
      have hB' : lessB a b c = 1 := by unfold lessB; rw [if_neg hb]
      rw [hB'] at hK
      simp -implicitDefEqProofs only [c128_l0, ↓v_lenS, ZZ, Nat.reduceBEq, reduceIte, Nat.reduceAdd, Nat.reduceLeDiff, Nat.reduceEqDiff, Nat.reduceBneDiff, CL, BS, h0, h1, h10, h11, h6, hv, hlt, hw, e4, ha, w1, w2, hn, hE, acc.flat, happ]
      refine hK _ _ ⟨?_, ?_, ?_, ?_, ?_, low7, ?_⟩
      all_goals simp -implicitDefEqProofs only [↓v_lenS, ZZ, Nat.reduceBEq, reduceIte, Nat.reduceAdd, Nat.reduceLeDiff, Nat.reduceEqDiff, Nat.reduceBneDiff, h0, h1, h10]
      · rfl
      · exact acc7
  · rintro fr H K' ⟨h0, h1, h10, h11, h6, low, acc⟩ hKe hKr
    obtain ⟨H', hs, kp⟩ := acc.shutV (by decide) (nats_still _)
    have hs' : shutV (fr 5) H = some (vN true (lessD BB x y x.length).1, H') := by
      rw [hs]; show some (AV.L true 1 _ x.length, H') = some (AV.L true 1 _ (lessD BB x y x.length).1.length, H'); rw [(hok _).1]
    simp -implicitDefEqProofs only [c128_l0, ↓v_lenS, ZZ, Nat.reduceBEq, reduceIte, Nat.reduceAdd, Nat.reduceLeDiff, Nat.reduceEqDiff, Nat.reduceBneDiff, CL, BS, h0, h1, h10, h11, Int.lt_irrefl, hKe, k_blockE, hs', e1, gives_ret]
    exact ⟨_, rfl⟩
  · refine ⟨?_, ?_, ?_, ?_, ?_, HLow.bare, ?_⟩
    all_goals simp -implicitDefEqProofs only [↓v_lenS, ZZ, Nat.reduceBEq, reduceIte, Nat.reduceAdd, Nat.reduceLeDiff, Nat.reduceEqDiff, Nat.reduceBneDiff]
    · rfl
    · rfl
    · exact Acc.nil
theorem sgn_pos {z : Int} (h : 0 < z) : sgn z = 1 := by unfold sgn; rw [if_neg (by omega), if_pos h]
theorem sgn_neg {z : Int} (h : z < 0) : sgn z = -1 := by unfold sgn; rw [if_pos h]
theorem drop_atN {x y : List Nat} {j : Nat} (hl : x.length = y.length) (h1 : j < x.length) (hd : x.drop (j + 1) = y.drop (j + 1)) (h : atN x j = atN y j) : x.drop j = y.drop j := by
  rw [List.drop_eq_getElem_cons h1, List.drop_eq_getElem_cons (by omega : j < y.length), hd]
  have a1 := atN_at h1
  have a2 := atN_at (l := y) (i := j) (by omega)
  rw [List.getElem?_eq_getElem h1] at a1
  rw [List.getElem?_eq_getElem (by omega : j < y.length)] at a2
  simp only [Option.some.injEq] at a1 a2
  rw [a1, a2, h]
theorem compare38 (f g : Bool) (x y : List Nat) (hx : Under BB x) (hy : Under BB y) (lx : Last x) (ly : Last y) (hlx : x.length ≤ 900000) (hly : y.length ≤ 900000) : Ret P5 127 [vN f x, vN g y] (.int .i64 (cmpN (lval BB x) (lval BB y))) := by
  refine Ret.of rfl (code127 _ _) rfl rfl (fun H => by simp -implicitDefEqProofs only [↓v_lenS, ZZ, Nat.reduceBEq, reduceIte, Nat.reduceAdd, Nat.reduceLeDiff, Nat.reduceEqDiff, Nat.reduceBneDiff, BS]) ?_
  refine ((sign53 ((x.length : Int) - y.length)).and ((Ev.all (List.range x.length) fun i _ => sign53 ((atN x i : Int) - atN y i)).and (Ev.ge (x.length + 2)))).mono fun n e H => ?_
  obtain ⟨e1, e2, hge⟩ := e
  by_cases hl : x.length = y.length
  · have hne : ((x.length : Int) != (y.length : Int)) = false := by rw [hl]; simp
    have hw0 : IntKind.i64.wrap ((x.length : Int) - 1) = (x.length : Int) - 1 := wrap64 (by omega) (by omega)
    simp -implicitDefEqProofs only [c127, ↓v_lenS, ZZ, Nat.reduceBEq, reduceIte, Nat.reduceAdd, Nat.reduceLeDiff, Nat.reduceEqDiff, Nat.reduceBneDiff, BS, hne, hw0]
    refine loop_rounds x.length (fun i fr H => fr 0 = vN f x ∧ fr 1 = vN g y ∧ fr 5 = .int .i64 ((x.length : Int) - 1 - i) ∧ x.drop (x.length - i) = y.drop (x.length - i)) ?_ ?_ n 0 _ _ (by omega) (by omega) ?_
    · rintro i fr H K' hi ⟨h0, h1, h5, hd⟩ hKe hKr hK
      obtain ⟨j, hj⟩ : ∃ j, j = x.length - (i + 1) := ⟨_, rfl⟩
      have hji : (x.length : Int) - 1 - i = (j : Int) := by omega
      have hji' : (x.length : Int) - 1 - ((i + 1 : Nat) : Int) = (j : Int) - 1 := by omega
      have hge0 : (j : Int) ≥ 0 := by omega
      have hw : IntKind.i64.wrap ((j : Int) - 1) = (j : Int) - 1 := wrap64 (by omega) (by omega)
      rw [hji] at h5
      rw [hji'] at hK
      rw [show x.length - i = j + 1 by omega] at hd
      have ha := iaddr_vN (f := f) (atN_at (l := x) (i := j) (by omega))
      have hb := iaddr_vN (f := g) (atN_at (l := y) (i := j) (by omega))
      have e3 := e2 j (List.mem_range.2 (by omega))
      have hBB := BB_eq
      have a1 := atN_lt (by omega) hx j
      have a2 := atN_lt (by omega) hy j
      have w1 : IntKind.i64.wrap ((atN x j : Int) - atN y j) = (atN x j : Int) - atN y j := wrap64 (by omega) (by omega)
      by_cases hq : atN x j = atN y j
      · have hE : ((atN x j : Int) != (atN y j : Int)) = false := by rw [hq]; simp
        simp -implicitDefEqProofs only [c127_l0, ↓v_lenS, ZZ, Nat.reduceBEq, reduceIte, Nat.reduceAdd, Nat.reduceLeDiff, Nat.reduceEqDiff, Nat.reduceBneDiff, CL, BS, h0, h1, h5, hge0, ha, hb, hE, hw]
        refine hK _ _ ⟨?_, ?_, ?_, ?_⟩
        any_goals simp -implicitDefEqProofs only [↓v_lenS, ZZ, Nat.reduceBEq, reduceIte, Nat.reduceAdd, Nat.reduceLeDiff, Nat.reduceEqDiff, Nat.reduceBneDiff, h0, h1]
        rw [← hj]; exact drop_atN hl (by omega) hd hq
      · have hE : ((atN x j : Int) != (atN y j : Int)) = true := by simp; omega
        have hc : cmpN (lval BB x) (lval BB y) = sgn ((atN x j : Int) - atN y j) := by
          rcases Nat.lt_or_ge (atN x j) (atN y j) with h | h
          · have := cmp_at BB2 hx (by omega) (by omega) hd h
            rw [sgn_neg (by omega), cmpN, if_pos this]
          · have := cmp_at BB2 hy (by omega) (by omega) hd.symm (by omega)
            rw [sgn_pos (by omega), cmpN, if_neg (by omega), if_pos this]
        rw [hc]
        simp -implicitDefEqProofs only [c127_l0, ↓v_lenS, ZZ, Nat.reduceBEq, reduceIte, Nat.reduceAdd, Nat.reduceLeDiff, Nat.reduceEqDiff, Nat.reduceBneDiff, CL, BS, h0, h1, h5, hge0, ha, hb, hE, hw, w1, e3, hKr, gives_ret]
        exact ⟨_, rfl⟩
    · rintro fr H K' ⟨h0, h1, h5, hd⟩ hKe hKr
      rw [Nat.sub_self, List.drop_zero, List.drop_zero] at hd
      subst hd
      have hc : cmpN (lval BB x) (lval BB x) = 0 := by simp [cmpN]
      have hge0 : ¬ ((x.length : Int) - 1 - (x.length : Int)) ≥ 0 := by omega
      rw [hc]
      simp -implicitDefEqProofs only [c127_l0, ↓v_lenS, ZZ, Nat.reduceBEq, reduceIte, Nat.reduceAdd, Nat.reduceLeDiff, Nat.reduceEqDiff, Nat.reduceBneDiff, CL, BS, h0, h1, h5, hge0, hKe, k_blockE, gives_ret]
      exact ⟨_, rfl⟩
    · refine ⟨?_, ?_, ?_, ?_⟩
      any_goals simp -implicitDefEqProofs only [↓v_lenS, ZZ, Nat.reduceBEq, reduceIte, Nat.reduceAdd, Nat.reduceLeDiff, Nat.reduceEqDiff, Nat.reduceBneDiff]
      · simp
      · simp [hl]
  · have hne : ((x.length : Int) != (y.length : Int)) = true := by simp; omega
    have hw0 : IntKind.i64.wrap ((x.length : Int) - (y.length : Int)) = (x.length : Int) - y.length := wrap64 (by omega) (by omega)
    have hc : cmpN (lval BB x) (lval BB y) = sgn ((x.length : Int) - y.length) := by
      rcases Nat.lt_or_ge x.length y.length with h | h
      · have := cmp_len BB2 hx ly h
        rw [sgn_neg (by omega), cmpN, if_pos this]
      · have := cmp_len BB2 hy lx (by omega)
        rw [sgn_pos (by omega), cmpN, if_neg (by omega), if_pos this]
    rw [hc]
    simp -implicitDefEqProofs only [c127, ↓v_lenS, ZZ, Nat.reduceBEq, reduceIte, Nat.reduceAdd, Nat.reduceLeDiff, Nat.reduceEqDiff, Nat.reduceBneDiff, CL, BS, hne, hw0, e1, Ends, gives_ret]
    exact ⟨_, rfl⟩
end Go.Lite

/-
  A text's number; a number's text.
-/
namespace Go.Lite
open Go Go.Proofs
theorem decode_small {s : Str} {c : Nat} (h : s[0]? = some c) (hc : c < 128) : decodeAt s = (c, 1) := by
  cases s with
  | nil => simp at h
  | cons d s =>
    simp only [List.getElem?_cons_zero, Option.some.injEq] at h
    subst h
    simp [decodeAt, hc]
def chunk (d : Str) (r : Nat) : Str := (d.take (d.length - 9 * r)).drop (d.length - 9 * (r + 1))
def chunks (d : Str) : Nat → List Nat
  | 0 => []
  | r + 1 => chunks d r ++ [dval (chunk d r)]
theorem chunks_len (d : Str) : ∀ r, (chunks d r).length = r
  | 0 => rfl
  | r + 1 => by simp [chunks, chunks_len d r]
theorem chunk_digs {d : Str} (h : Digs d) (r : Nat) : Digs (chunk d r) := (h.take _).drop _
theorem chunk_len (d : Str) (r : Nat) : (chunk d r).length ≤ 9 := by unfold chunk; rw [List.length_drop, List.length_take]; omega
theorem chunk_lt {d : Str} (h : Digs d) (r : Nat) : dval (chunk d r) < BB := by
  have h1 := dval_lt (chunk_digs h r)
  have h2 : 10 ^ (chunk d r).length ≤ 10 ^ 9 := Nat.pow_le_pow_right (by omega) (chunk_len d r)
  have : (10 : Nat) ^ 9 = BB := by decide
  omega
theorem chunks_under {d : Str} (h : Digs d) : ∀ r, Under BB (chunks d r)
  | 0 => .nil
  | r + 1 => (chunks_under h r).snoc (chunk_lt h r)
theorem chunks_val (d : Str) : ∀ r, 9 * r ≤ d.length + 8 → lval BB (chunks d r) = dval (d.drop (d.length - 9 * r))
  | 0, _ => by simp [chunks, lval, dval]
  | r + 1, hr => by
    have h1 := chunks_val d r (by omega)
    have h2 : d.drop (d.length - 9 * (r + 1)) = chunk d r ++ d.drop (d.length - 9 * r) := by
      unfold chunk
      rw [← List.drop_append_of_le_length (by rw [List.length_take]; omega), List.take_append_drop]
    have h3 : BB ^ r = 10 ^ (9 * r) := by rw [Nat.pow_mul]
    rw [chunks, lval_snoc, chunks_len, h1, h2, dval_append, List.length_drop, h3]
    have h4 : d.length - (d.length - 9 * r) = 9 * r := by omega
    rw [h4, Nat.mul_comm (10 ^ (9 * r))]
    omega
theorem i32_digit {c : Nat} (h1 : 48 ≤ c) (h2 : c ≤ 57) : IntKind.i32.wrap ((c : Int) - 48) = ((c - 48 : Nat) : Int) := by
  have : ∀ c : Nat, c < 58 → 48 ≤ c → IntKind.i32.wrap ((c : Int) - 48) = ((c - 48 : Nat) : Int) := by decide
  exact this c (by omega) h1
theorem Acc.putI {N : Nat} {H : Heap} {e es n : Nat} {cells : List AV} {v : AV} {ob : Obj} {k : Nat} (h : Acc N H e es n cells v) {s : List Nat} {p : Nat} (hk : H.t.get k = some (.iter s p)) : Acc N (H.put k ob) e es n cells v :=
  h.keep fun j _ _ hj => by
    rw [h_gput, if_neg]
    rintro rfl
    rw [hk] at hj
    cases hj
theorem dval_take {t : Str} {i c : Nat} (h : t[i]? = some c) : dval (t.take (i + 1)) = 10 * dval (t.take i) + (c - 48) := by
  rw [List.take_add_one, h, Option.toList_some, dval_snoc]
theorem load_l0 {n m : Nat} {t : Str} {k r : Nat} {out : List Nat} {s3 s4 s6 : AV} {fr : Fr} {H : Heap} {KK : Ex → Fr → Heap → R} {Q : AV → Heap → Prop} (ht : Digs t) (hl : t.length ≤ 9) (hn : 11 ≤ m) (h27 : fr 27 = .ptr (.new k) 0) (hk : H.t.get k = some (.iter t 0)) (h7 : fr 7 = .int .i64 0)
    (h2 : fr 2 = .ptr (.new 0) 0) (h3 : fr 3 = s3) (h4 : fr 4 = s4) (h6 : fr 6 = s6) (hk0 : H.t.get 0 = some (.row [.bool false, .nils] 0 false (some 204))) (low : HLow H) (acc : Acc 1 H 3 1 r (out.flatMap nat1) (fr 5))
    (hK : ∀ (fr : Fr) (H : Heap), fr 7 = .int .i64 (dval t : Nat) → fr 2 = .ptr (.new 0) 0 → fr 3 = s3 → fr 4 = s4 → fr 6 = s6 → H.t.get 0 = some (.row [.bool false, .nils] 0 false (some 204)) → HLow H → Acc 1 H 3 1 r (out.flatMap nat1) (fr 5) → Gives (KK (.exit 2) fr H) Q) :
    Gives (loopR (callN P5 n) n c120_l0 m fr H KK) Q := by
  have hk0' : k ≠ 0 := fun e => by subst e; rw [hk0] at hk; cases hk
  refine loop_rounds t.length (fun i fr H => fr 27 = .ptr (.new k) 0 ∧ H.t.get k = some (.iter t i) ∧ fr 7 = .int .i64 (dval (t.take i) : Nat) ∧ fr 2 = .ptr (.new 0) 0 ∧ fr 3 = s3 ∧ fr 4 = s4 ∧ fr 6 = s6 ∧ H.t.get 0 = some (.row [.bool false, .nils] 0 false (some 204)) ∧ HLow H ∧ Acc 1 H 3 1 r (out.flatMap nat1) (fr 5)) ?_ ?_ m 0 _ _ (by omega) (by omega) ⟨h27, hk, h7, h2, h3, h4, h6, hk0, low, acc⟩
  · rintro i fr H K' hi ⟨h27, hk, h7, h2, h3, h4, h6, hk0, low, acc⟩ hKe hKr hK
    obtain ⟨c, hc⟩ : ∃ c, t[i]? = some c := ⟨t[i], List.getElem?_eq_getElem hi⟩
    obtain ⟨hd1, hd2⟩ := ht c (List.mem_of_getElem? hc)
    have hde : decodeAt (t.drop i) = (c, 1) := decode_small (by rw [List.getElem?_drop]; exact hc) (by omega)
    have hv := dval_take hc
    have hlt := dval_lt (ht.take i)
    have hpow : (10 : Nat) ^ (t.take i).length ≤ 10 ^ 9 := Nat.pow_le_pow_right (by omega) (by rw [List.length_take]; omega)
    rw [hv] at hK
    generalize dval (t.take i) = a at *
    have w1 : IntKind.i64.wrap (10 * (a : Int)) = ((10 * a : Nat) : Int) := by rw [wrap64 (by omega) (by omega)]; omega
    have w2 := i32_digit hd1 hd2
    have w3 : IntKind.i64.wrap ((c - 48 : Nat) : Int) = ((c - 48 : Nat) : Int) := wrap64 (by omega) (by omega)
    have w4 : IntKind.i64.wrap (((10 * a : Nat) : Int) + ((c - 48 : Nat) : Int)) = ((10 * a + (c - 48) : Nat) : Int) := by rw [wrap64 (by omega) (by omega)]; rfl
    generalize hv5 : fr 5 = v at *
    simp -implicitDefEqProofs only [c120_l0, ↓v_lenS, ZZ, Nat.reduceBEq, reduceIte, Nat.reduceAdd, Nat.reduceLeDiff, Nat.reduceEqDiff, Nat.reduceBneDiff, h27, hk, hi, hde, h7, w1, w2, w3, w4]
    refine hK _ _ ⟨?_, ?_, ?_, ?_, ?_, ?_, ?_, ?_, low.put (low.lt hk), ?_⟩
    · simp -implicitDefEqProofs only [↓v_lenS, ZZ, Nat.reduceBEq, reduceIte, Nat.reduceAdd, Nat.reduceLeDiff, Nat.reduceEqDiff, Nat.reduceBneDiff, h27]
    · simp -implicitDefEqProofs only [↓v_lenS, ZZ, Nat.reduceBEq, reduceIte, Nat.reduceAdd, Nat.reduceLeDiff, Nat.reduceEqDiff, Nat.reduceBneDiff]
    · simp -implicitDefEqProofs only [↓v_lenS, ZZ, Nat.reduceBEq, reduceIte, Nat.reduceAdd, Nat.reduceLeDiff, Nat.reduceEqDiff, Nat.reduceBneDiff]
    · simp -implicitDefEqProofs only [↓v_lenS, ZZ, Nat.reduceBEq, reduceIte, Nat.reduceAdd, Nat.reduceLeDiff, Nat.reduceEqDiff, Nat.reduceBneDiff, h2]
    · simp -implicitDefEqProofs only [↓v_lenS, ZZ, Nat.reduceBEq, reduceIte, Nat.reduceAdd, Nat.reduceLeDiff, Nat.reduceEqDiff, Nat.reduceBneDiff, h3]
    · simp -implicitDefEqProofs only [↓v_lenS, ZZ, Nat.reduceBEq, reduceIte, Nat.reduceAdd, Nat.reduceLeDiff, Nat.reduceEqDiff, Nat.reduceBneDiff, h4]
    · simp -implicitDefEqProofs only [↓v_lenS, ZZ, Nat.reduceBEq, reduceIte, Nat.reduceAdd, Nat.reduceLeDiff, Nat.reduceEqDiff, Nat.reduceBneDiff, h6]
    · rw [h_gput, if_neg (Ne.symm hk0')]; exact hk0
    · simp -implicitDefEqProofs only [↓v_lenS, ZZ, Nat.reduceBEq, reduceIte, Nat.reduceAdd, Nat.reduceLeDiff, Nat.reduceEqDiff, Nat.reduceBneDiff, hv5]; exact acc.putI hk
  · rintro fr H K' ⟨h27, hk, h7, h2, h3, h4, h6, hk0, low, acc⟩ hKe hKr
    have hlt : ¬ t.length < t.length := by omega
    rw [List.take_length] at h7
    generalize hv5 : fr 5 = v at *
    simp -implicitDefEqProofs only [c120_l0, ↓v_lenS, ZZ, Nat.reduceBEq, reduceIte, Nat.reduceAdd, Nat.reduceLeDiff, Nat.reduceEqDiff, Nat.reduceBneDiff, h27, hk, hlt, hKe]
    refine hK _ _ ?_ ?_ ?_ ?_ ?_ hk0 low ?_
    all_goals simp -implicitDefEqProofs only [↓v_lenS, ZZ, Nat.reduceBEq, reduceIte, Nat.reduceAdd, Nat.reduceLeDiff, Nat.reduceEqDiff, Nat.reduceBneDiff, h7, h2, h3, h4, h6, hv5]
    exact acc
theorem load30 (s : Str) (hd : Digs (cutS s)) (hs : s.length ≤ 100000) : Ret P5 120 [.str s] (.agg [.bool (negS s), vN true (limbs BB (dval (cutS s)))]) := by
  have hlen := cutS_len s
  obtain ⟨N, hN⟩ : ∃ N, N = ((cutS s).length + 8) / 9 := ⟨_, rfl⟩
  have hres : trimL (chunks (cutS s) N) = limbs BB (dval (cutS s)) := by
    have h1 := chunks_val (cutS s) N (by omega)
    rw [show (cutS s).length - 9 * N = 0 by omega, List.drop_zero] at h1
    rw [← h1, limbs_trim BB2 (chunks_under hd N)]
  rw [← hres]
  refine Ret.of rfl (code120 _ _) rfl rfl (fun H => by simp -implicitDefEqProofs only [↓v_lenS, ZZ, Nat.reduceBEq, reduceIte, Nat.reduceAdd, Nat.reduceLeDiff, Nat.reduceEqDiff, Nat.reduceBneDiff]) ?_
  refine ((cut29 s (by omega)).and ((trim35 true (chunks (cutS s) N) (by rw [chunks_len]; omega)).and (Ev.ge (N + 20)))).mono fun n e H => ?_
  obtain ⟨e1, e2, hge⟩ := e
  generalize cutS s = d at *
  generalize negS s = b at *
  simp -implicitDefEqProofs only [c120, ↓v_lenS, ZZ, Nat.reduceBEq, reduceIte, Nat.reduceAdd, Nat.reduceLeDiff, Nat.reduceEqDiff, Nat.reduceBneDiff, CL, e1]
  refine loop_rounds N (fun r fr H => fr 2 = .ptr (.new 0) 0 ∧ fr 3 = .str d ∧ fr 4 = .bool b ∧ fr 6 = .int .i64 ((d.length : Int) - 9 * r) ∧ H.t.get 0 = some (.row [.bool false, .nils] 0 false (some 204)) ∧ HLow H ∧ Acc 1 H 3 1 r ((chunks d r).flatMap nat1) (fr 5)) ?_ ?_ n 0 _ _ (by omega) (by omega) ?_
  · rintro r fr H K' hi ⟨h2, h3, h4, h6, hk0, low, acc⟩ hKe hKr hK
    obtain ⟨hi9, hhi⟩ : ∃ x, x = d.length - 9 * r := ⟨_, rfl⟩
    obtain ⟨lo9, hlo⟩ : ∃ x, x = d.length - 9 * (r + 1) := ⟨_, rfl⟩
    have hgt : (hi9 : Int) > 0 := by omega
    rw [show (d.length : Int) - 9 * (r : Int) = (hi9 : Int) by omega] at h6
    have w1 : IntKind.i64.wrap ((hi9 : Int) - 9) = (d.length : Int) - 9 * ((r + 1 : Nat) : Int) := by rw [wrap64 (by omega) (by omega)]; omega
    have w2 : (if (0 : Int) > (d.length : Int) - 9 * ((r + 1 : Nat) : Int) then (0 : Int) else (d.length : Int) - 9 * ((r + 1 : Nat) : Int)) = (lo9 : Int) := by split <;> omega
    have c1 : lo9 ≤ hi9 := by omega
    have c2 : hi9 ≤ d.length := by omega
    have c3 : (d.drop lo9).take (hi9 - lo9) = chunk d r := by rw [chunk, List.drop_take, hhi, hlo]
    have ht := chunk_digs hd r
    have hcl := chunk_len d r
    have hnx : chunks d (r + 1) = chunks d r ++ [dval (chunk d r)] := rfl
    have hol := chunks_len d r
    rw [hnx] at hK
    generalize chunks d r = out at *
    generalize chunk d r = t at *
    simp -implicitDefEqProofs only [c120_l1, ↓v_lenS, ZZ, Nat.reduceBEq, reduceIte, Nat.reduceAdd, Nat.reduceLeDiff, Nat.reduceEqDiff, Nat.reduceBneDiff, CL, h2, h3, h4, h6, hgt, w1, w2, c1, c2, c3]
    have k0n : H.n ≠ 0 := by have := low.lt hk0; omega
    refine load_l0 (k := H.n) (r := r) (out := out) (s3 := .str d) (s4 := .bool b) (s6 := .int .i64 (hi9 : Int)) ht hcl (by omega) ?_ (by rw [h_get, if_pos rfl]) ?_ ?_ ?_ ?_ ?_ (by rw [h_get, if_neg (Ne.symm k0n)]; exact hk0) low.push ?_ ?_
    any_goals simp -implicitDefEqProofs only [↓v_lenS, ZZ, Nat.reduceBEq, reduceIte, Nat.reduceAdd, Nat.reduceLeDiff, Nat.reduceEqDiff, Nat.reduceBneDiff, h2, h3, h4, h6]
    · exact acc.push low
    · intro fr H h7 h2 h3 h4 h6 hk0 low acc
      obtain ⟨H7, happ, acc7, low7, hn7, car7⟩ := nat_more acc low (low.lt hk0) (dval t) (by omega) hol
      generalize hv5 : fr 5 = v at *
      simp -implicitDefEqProofs only [↓v_lenS, ZZ, Nat.reduceBEq, reduceIte, Nat.reduceAdd, Nat.reduceLeDiff, Nat.reduceEqDiff, Nat.reduceBneDiff, CL, k_blockE, h2, h3, h4, h6, h7, hv5, acc.flat, happ, w1]
      refine hK _ _ ⟨?_, ?_, ?_, ?_, car7 _ _ _ _ hk0, low7, ?_⟩
      any_goals simp -implicitDefEqProofs only [↓v_lenS, ZZ, Nat.reduceBEq, reduceIte, Nat.reduceAdd, Nat.reduceLeDiff, Nat.reduceEqDiff, Nat.reduceBneDiff, h2, h3, h4]
      exact acc7
  · rintro fr H K' ⟨h2, h3, h4, h6, hk0, low, acc⟩ hKe hKr
    have hgt : ¬ (d.length : Int) - 9 * (N : Int) > 0 := by omega
    obtain ⟨H', hs, kp⟩ := acc.shutV (by decide) (nats_still _)
    have hs' : shutV (fr 5) H = some (vN true (chunks d N), H') := by
      rw [hs]; show some (AV.L true 1 _ N, H') = some (AV.L true 1 _ (chunks d N).length, H'); rw [chunks_len]
    have g0 := acc.row (by decide) kp hk0
    simp -implicitDefEqProofs only [c120_l1, ↓v_lenS, ZZ, Nat.reduceBEq, reduceIte, Nat.reduceAdd, Nat.reduceLeDiff, Nat.reduceEqDiff, Nat.reduceBneDiff, CL, BS, h2, h3, h4, h6, hgt, hKe, k_blockE, hs', e2, g0, gives_ret]
    exact ⟨_, rfl⟩
  · refine ⟨?_, ?_, ?_, ?_, ?_, HLow.bare.push, ?_⟩
    any_goals simp -implicitDefEqProofs only [↓v_lenS, ZZ, Nat.reduceBEq, reduceIte, Nat.reduceAdd, Nat.reduceLeDiff, Nat.reduceEqDiff, Nat.reduceBneDiff]
    any_goals rfl
    exact Acc.nil
end Go.Lite

/-
  A builder; a number's text.
-/
namespace Go.Lite
open Go Go.Proofs
theorem reps_len (s : Str) : ∀ c, (reps s c).length = c * s.length
  | 0 => by simp [reps_zero]
  | c + 1 => by rw [reps_succ, List.length_append, reps_len s c, Nat.succ_mul]; omega
theorem zeros_digs : ∀ c, Digs (reps [48] c)
  | 0 => .nil
  | c + 1 => by rw [reps_succ]; exact Digs.append (a := [48]) (fun x hx => by rw [List.mem_singleton.1 hx]; omega) (zeros_digs c)
theorem zeros_val : ∀ c, dval (reps [48] c) = 0
  | 0 => rfl
  | c + 1 => by rw [reps_succ, dval_append, zeros_val c]; simp [dval]
theorem decN_cat {v m : Nat} (hv : 0 < v) (hm : m < BB) : decN (m + BB * v) = decN v ++ reps [48] (9 - (decN m).length) ++ decN m := by
  have hl : (decN m).length ≤ 9 := (decN_len_le (by omega)).2 hm
  have hne := decN_ne v
  have hd : Digs (decN v ++ reps [48] (9 - (decN m).length) ++ decN m) := ((decN_digs v).append (zeros_digs _)).append (decN_digs m)
  have hval : dval (decN v ++ reps [48] (9 - (decN m).length) ++ decN m) = m + BB * v := by
    rw [dval_append, dval_append, dval_decN, dval_decN, zeros_val, reps_len, List.length_singleton, Nat.mul_one, Nat.add_zero, Nat.mul_assoc, ← Nat.pow_add]
    rw [show 9 - (decN m).length + (decN m).length = 9 by omega]
    have : (10 : Nat) ^ 9 = BB := by decide
    rw [this, Nat.mul_comm]; omega
  rw [← hval]
  refine decN_of hd (by simp [hne]) ?_
  intro h0
  have hp := List.length_pos_iff.2 hne
  rw [List.append_assoc, List.getElem?_append_left hp] at h0
  have := decN_head v h0
  omega
def Bld (H : Heap) (k : Nat) (s : List Nat) : Prop :=
  ∃ a bv, (a = .nilp ∨ a = .ptr (.new k) 0) ∧ H.t.get k = some (.row [a, bv] 0 false (some 67)) ∧ Acc 0 H 5 1 s.length (bytes s) bv
theorem write49 {n : Nat} {H : Heap} {k : Nat} {s t : List Nat} (hb : Bld H k s) (low : HLow H) (hlen : s.length + t.length ≤ 1099511627776) :
    Gives (callN P5 (n + 2) 78 [.ptr (.new k) 0, .str t] H) fun _ H' => Bld H' k (s ++ t) ∧ HKeep (firmBut k) H H' := by
  rw [callN_code (P := P5) (sf := c78) rfl (code78 _ _) rfl rfl]
  obtain ⟨a, bv, ha, hg, hc⟩ := hb
  have hk : k < H.n := low k _ hg
  have fb := hc.flat
  have fin : ∀ H1 : Heap, H1.t.get k = some (.row [.ptr (.new k) 0, bv] 0 false (some 67)) → HLow H1 → HKeep (firmBut k) H H1 → Acc 0 H1 5 1 s.length (bytes s) bv →
      ∃ v' H2, appendOf 5 1 1 H1 bv (t.length, bytes t) = some (v', H2) ∧ H2.t.get k = some (.row [.ptr (.new k) 0, bv] 0 false (some 67)) ∧ v'.flat = true ∧ Bld (H2.put k (.row [.ptr (.new k) 0, v'] 0 false (some 67))) k (s ++ t) ∧ HKeep (firmBut k) H (H2.put k (.row [.ptr (.new k) 0, v'] 0 false (some 67))) := by
    intro H1 hg1 low1 kp1 hc1
    obtain ⟨v', H2, happ, hc2, kp2, low2⟩ := hc1.more (m := t.length) (bs := 1) (ys := bytes t) (Nat.zero_le _) low1 (by decide) (by simp [bytes_len]) (bytes_flat t) (by omega)
    have hg2 := hc1.row (by decide) kp2 hg1
    refine ⟨v', H2, happ, hg2, hc2.flat, ⟨_, v', .inr rfl, by rw [h_gput, if_pos rfl], ?_⟩, ?_⟩
    · rw [bytes_append, List.length_append]
      exact hc2.put (by decide) hg2
    · have kp3 : HKeep (firmBut k) H H2 := kp1.trans ((hc1.firm (by decide) kp2).mono fun j o _ h => .inr h)
      exact kp3.trans (HKeep.put (X := firmBut k) (fun _ => .inl rfl) (low2 k _ hg2))
  rcases ha with rfl | rfl
  · obtain ⟨v', H2, e1, e2, e3, e4, e5⟩ := fin (H.put k (.row [.ptr (.new k) 0, bv] 0 false (some 67))) (by rw [h_gput, if_pos rfl]) (low.put hk) (HKeep.put (X := firmBut k) (fun _ => .inl rfl) hk) (hc.put (by decide) hg)
    simp -implicitDefEqProofs only [c78, ↓v_lenS, ZZ, Nat.reduceBEq, reduceIte, Nat.reduceAdd, Nat.reduceLeDiff, Nat.reduceEqDiff, Nat.reduceBneDiff, CL, gives_ret, callN_own (P := P5) (f := 95) (g := ownCheck lies4) rfl, ownCheck, hg, lies4, Nat.reduceBEq, beq_lit, taken_str, e1, e2, e3]
    exact ⟨e4, e5⟩
  · obtain ⟨v', H2, e1, e2, e3, e4, e5⟩ := fin H hg low HKeep.refl hc
    simp -implicitDefEqProofs only [c78, ↓v_lenS, ZZ, Nat.reduceBEq, reduceIte, Nat.reduceAdd, Nat.reduceLeDiff, Nat.reduceEqDiff, Nat.reduceBneDiff, CL, gives_ret, callN_own (P := P5) (f := 95) (g := ownCheck lies4) rfl, ownCheck, hg, lies4, Nat.reduceBEq, beq_lit, taken_str, e1, e2, e3]
    exact ⟨e4, e5⟩
theorem string51 {n : Nat} {H : Heap} {k : Nat} {s : List Nat} (hb : Bld H k s) (h256 : ∀ c ∈ s, c < 256) (hlen : s.length ≤ 1099511627776) :
    ∃ H', callN P5 (n + 1) 28 [.ptr (.new k) 0] H = some (.ret (.str s), H') := by
  rw [callN_own (P := P5) (g := ownString) rfl]
  obtain ⟨a, bv, ha, hg, hc⟩ := hb
  rcases hc with ⟨h0, h1, rfl⟩ | ⟨h0, h1, j, rfl, _, hgj⟩
  · obtain rfl := List.eq_nil_of_length_eq_zero h0
    simp -implicitDefEqProofs only [ownString, ↓v_lenS, ZZ, Nat.reduceBEq, reduceIte, Nat.reduceAdd, Nat.reduceLeDiff, Nat.reduceEqDiff, Nat.reduceBneDiff, hg]
    exact ⟨_, rfl⟩
  · cases s with
    | nil => exact absurd rfl h0
    | cons c s =>
      have e1 : (bytes (c :: s)).take (s.length + 1) = bytes (c :: s) := List.take_of_length_le (by simp [bytes])
      have e2 := bytesOf_bytes (c :: s) h256
      simp -implicitDefEqProofs only [ownString, ↓v_lenS, ZZ, Nat.reduceBEq, reduceIte, Nat.reduceAdd, Nat.reduceLeDiff, Nat.reduceEqDiff, Nat.reduceBneDiff, hg, hgj, e1, e2]
      rw [if_pos (by simp [bytes] at hlen ⊢; omega)]
      exact ⟨_, rfl⟩
theorem len48 {n : Nat} {H : Heap} {k : Nat} {s : List Nat} (hb : Bld H k s) : callN P5 (n + 1) 76 [.ptr (.new k) 0] H = some (.ret (.int .i64 (s.length : Nat)), H) := by
  rw [callN_code (P := P5) (sf := c76) rfl (code76 _ _) rfl rfl]
  obtain ⟨a, bv, ha, hg, hc⟩ := hb
  have hl := hc.len
  simp -implicitDefEqProofs only [c76, ↓v_lenS, ZZ, Nat.reduceBEq, reduceIte, Nat.reduceAdd, Nat.reduceLeDiff, Nat.reduceEqDiff, Nat.reduceBneDiff, hg, hl]
theorem itoa47 {n a : Nat} {H : Heap} (h : a ≤ 9223372036854775807) : callN P5 (n + 1) 147 [.int .i64 (a : Int)] H = some (.ret (.str (decN a)), H) := by
  rw [callN_own (P := P5) (g := ownItoa) rfl, ownItoa, if_pos (by omega), Int.toNat_natCast]
theorem repeat50 {n a : Nat} {H : Heap} {s : Str} (h : a ≤ 9) (hs : s.length ≤ 9) : callN P5 (n + 1) 148 [.str s, .int .i64 (a : Int)] H = some (.ret (.str (reps s a)), H) := by
  have h1 : s.length * a ≤ 9 * 9 := Nat.mul_le_mul hs h
  rw [callN_own (P := P5) (g := ownRepeat) rfl, ownRepeat, if_pos (by rw [Int.toNat_natCast]; omega), Int.toNat_natCast]
def opZ (z : Int) : Str := if z.natAbs < 10 ^ 200 then decZ z else []
def opT (z : Int) : AV := .tuple [.str (opZ z), .bool (decide (z.natAbs < 10 ^ 200))]
def topV (l : List Nat) (r : Nat) : Nat := lval BB (l.drop (l.length - r))
def topS (l : List Nat) (r : Nat) : Str := if r = 0 then [] else decN (topV l r)
theorem topV_zero (l : List Nat) : topV l 0 = 0 := by simp [topV, lval]
theorem topV_all (l : List Nat) : topV l l.length = lval BB l := by simp [topV]
theorem topV_succ {l : List Nat} {r : Nat} (h : r < l.length) : topV l (r + 1) = atN l (l.length - (r + 1)) + BB * topV l r := by
  unfold topV
  have h1 : l.length - (r + 1) < l.length := by omega
  rw [List.drop_eq_getElem_cons h1, lval, show l.length - (r + 1) + 1 = l.length - r by omega]
  have := atN_at h1
  rw [List.getElem?_eq_getElem h1] at this
  simp only [Option.some.injEq] at this
  rw [this]
theorem topV_lt {l : List Nat} (hl : Under BB l) (r : Nat) : topV l r < BB ^ r := by
  have h1 := lval_lt (B := BB) (by decide) (l := l.drop (l.length - r)) fun x hx => hl x (List.mem_of_mem_drop hx)
  have h2 : BB ^ (l.drop (l.length - r)).length ≤ BB ^ r := Nat.pow_le_pow_right (by decide) (by rw [List.length_drop]; omega)
  unfold topV; omega
theorem topV_pos {l : List Nat} (hl : Last l) {r : Nat} (h0 : 0 < r) (h1 : r ≤ l.length) : 0 < topV l r := by
  rcases hl with rfl | ⟨a, d, rfl, hd⟩
  · simp at h1; omega
  · unfold topV
    rw [List.drop_append_of_le_length (by simp at h1 ⊢; omega), lval_snoc]
    have : BB ^ (a.drop ((a ++ [d]).length - r)).length * 1 ≤ BB ^ (a.drop ((a ++ [d]).length - r)).length * d := Nat.mul_le_mul_left _ (by omega)
    have h2 : 0 < BB ^ (a.drop ((a ++ [d]).length - r)).length := Nat.pow_pos (by decide)
    omega
theorem topS_zero (l : List Nat) : topS l 0 = [] := rfl
theorem topS_succ {l : List Nat} (r : Nat) : topS l (r + 1) = decN (topV l (r + 1)) := by unfold topS; rw [if_neg (by omega)]
theorem topS_len {l : List Nat} (hl : Under BB l) (r : Nat) : (topS l r).length ≤ 9 * r := by
  unfold topS
  split
  · simp
  · refine (decN_len_le (by omega)).2 ?_
    have h := topV_lt hl r
    have : BB ^ r = 10 ^ (9 * r) := by rw [Nat.pow_mul]
    omega
theorem decN_256 (n : Nat) : ∀ c ∈ decN n, c < 256 := fun c hc => by have := decN_digs n c hc; omega
set_option maxHeartbeats 4000000 in
theorem text32 (f neg : Bool) (a : Nat) (hl : (limbs BB a).length ≤ 900000) : Ret P5 121 [.agg [.bool neg, vN f (limbs BB a)]] (opT (if neg then -(a : Int) else (a : Int))) := by
  have hu := limbs_below BB2 a
  have hla := limbs_last BB2 a
  have hva := lval_limbs BB2 a
  refine Ret.of rfl (code121 _ _) rfl rfl (fun H => by simp -implicitDefEqProofs only [↓v_lenS, ZZ, Nat.reduceBEq, reduceIte, Nat.reduceAdd, Nat.reduceLeDiff, Nat.reduceEqDiff, Nat.reduceBneDiff, BS]) ?_
  refine (Ev.ge ((limbs BB a).length + 10)).mono fun n hge H => ?_
  obtain ⟨m, rfl⟩ : ∃ m, n = m + 2 := ⟨n - 2, by omega⟩
  have hna : (if neg then -(a : Int) else (a : Int)).natAbs = a := by split <;> simp
  by_cases h0 : a = 0
  · subst h0
    rw [limbs_zero]
    have hz : (((0 : Nat) : Int) == 0) = true := rfl
    have hr : opT (if neg = true then -((0 : Nat) : Int) else ((0 : Nat) : Int)) = .tuple [.str [48], .bool true] := by
      have : (if neg = true then -((0 : Nat) : Int) else ((0 : Nat) : Int)) = 0 := by cases neg <;> rfl
      rw [this]
      simp [opT, opZ, decZ, decN_small]
    rw [hr]
    simp -implicitDefEqProofs only [c121, ↓v_lenS, ZZ, Nat.reduceBEq, reduceIte, Nat.reduceAdd, Nat.reduceLeDiff, Nat.reduceEqDiff, Nat.reduceBneDiff, BS, vN_nil, hz, Ends, gives_ret]
    exact ⟨_, rfl⟩
  · have hpos : limbs BB a ≠ [] := fun e => by rw [e] at hva; simp [lval] at hva; omega
    have hlp := List.length_pos_iff.2 hpos
    have hz : (((limbs BB a).length : Int) == 0) = false := by simpa using hpos
    have hw0 : IntKind.i64.wrap (((limbs BB a).length : Int) - 1) = ((limbs BB a).length : Int) - 1 := wrap64 (by omega) (by omega)
    simp -implicitDefEqProofs only [c121, ↓v_lenS, ZZ, Nat.reduceBEq, reduceIte, Nat.reduceAdd, Nat.reduceLeDiff, Nat.reduceEqDiff, Nat.reduceBneDiff, BS, hz, hw0]
    generalize hL : limbs BB a = l at *
    refine loop_rounds l.length (fun r fr H => fr 1 = .ptr (.new 0) 0 ∧ fr 4 = .ptr (.new 1) 0 ∧ fr 5 = .int .i64 ((l.length : Int) - 1 - r) ∧ H.t.get 0 = some (.row [.bool neg, vN f l] 0 false (some 204)) ∧ HLow H ∧ Bld H 1 (topS l r)) ?_ ?_ (m + 2) 0 _ _ (by omega) (by omega) ?_
    · rintro r fr H K' hi ⟨h1, h4, h5, g0, low, hb⟩ hKe hKr hK
      obtain ⟨j, hj⟩ : ∃ j, j = l.length - (r + 1) := ⟨_, rfl⟩
      rw [show (l.length : Int) - 1 - (r : Int) = (j : Int) by omega] at h5
      rw [show (l.length : Int) - 1 - ((r + 1 : Nat) : Int) = (j : Int) - 1 by omega] at hK
      have hge0 : (j : Int) ≥ 0 := by omega
      have hw : IntKind.i64.wrap ((j : Int) - 1) = (j : Int) - 1 := wrap64 (by omega) (by omega)
      have ha := iaddr_vN (f := f) (atN_at (l := l) (i := j) (by omega))
      have hBB := BB_eq
      have a1 := atN_lt (by omega) hu j
      have hts := topV_succ hi
      rw [← hj] at hts
      rw [topS_succ, hts] at hK
      have hdl : (decN (atN l j)).length ≤ 9 := (decN_len_le (by omega)).2 a1
      have hi47 := fun (H : Heap) => itoa47 (n := m + 1) (a := atN l j) (H := H) (by omega)
      have hsl := topS_len hu r
      have hlen := fun (n : Nat) => len48 (n := n) hb
      by_cases hr : r = 0
      · subst hr
        rw [topV_zero, Nat.mul_zero, Nat.add_zero] at hK
        rw [topS_zero] at hb hlen
        have hn : ¬ ((0 : Nat) : Int) > 0 := by simp
        simp -implicitDefEqProofs only [c121_l0, ↓v_lenS, ZZ, Nat.reduceBEq, reduceIte, Nat.reduceAdd, Nat.reduceLeDiff, Nat.reduceEqDiff, Nat.reduceBneDiff, CL, BS, h1, h4, h5, hge0, g0, ha, hi47, hlen, hn]
        refine gives_call (write49 hb low (by simp; omega)) ?_
        rintro v H' ⟨hb', kp'⟩
        have g0' := kp'.get _ _ g0 (firmBut_row (by decide))
        simp -implicitDefEqProofs only [↓v_lenS, ZZ, Nat.reduceBEq, reduceIte, Nat.reduceAdd, Nat.reduceLeDiff, Nat.reduceEqDiff, Nat.reduceBneDiff, h5, hw]
        refine hK _ _ ⟨?_, ?_, ?_, g0', kp'.low low, by simpa using hb'⟩
        all_goals simp -implicitDefEqProofs only [↓v_lenS, ZZ, Nat.reduceBEq, reduceIte, Nat.reduceAdd, Nat.reduceLeDiff, Nat.reduceEqDiff, Nat.reduceBneDiff, h1, h4]
      · have hvp := topV_pos hla (r := r) (by omega) (by omega)
        rw [decN_cat hvp a1] at hK
        have htr : topS l r = decN (topV l r) := by unfold topS; rw [if_neg hr]
        rw [htr] at hb hlen hsl
        have hdp := List.length_pos_iff.2 (decN_ne (topV l r))
        generalize decN (topV l r) = S at *
        generalize decN (atN l j) = D at *
        have hn : ((S.length : Nat) : Int) > 0 := by omega
        have hw9 : IntKind.i64.wrap (9 - (D.length : Int)) = ((9 - D.length : Nat) : Int) := by rw [wrap64 (by omega) (by omega)]; omega
        have hrp := fun (H : Heap) => repeat50 (n := m + 1) (a := 9 - D.length) (s := [48]) (H := H) (by omega) (by simp)
        simp -implicitDefEqProofs only [c121_l0, ↓v_lenS, ZZ, Nat.reduceBEq, reduceIte, Nat.reduceAdd, Nat.reduceLeDiff, Nat.reduceEqDiff, Nat.reduceBneDiff, CL, BS, h1, h4, h5, hge0, g0, ha, hi47, hlen, hn, hw9, hrp]
        refine gives_call (write49 hb low (by rw [reps_len, List.length_singleton]; omega)) ?_
        rintro v H' ⟨hb', kp'⟩
        have g0' := kp'.get _ _ g0 (firmBut_row (by decide))
        simp -implicitDefEqProofs only [↓v_lenS, ZZ, Nat.reduceBEq, reduceIte, Nat.reduceAdd, Nat.reduceLeDiff, Nat.reduceEqDiff, Nat.reduceBneDiff, CL, h4, h5]
        refine gives_call (write49 hb' (kp'.low low) (by rw [List.length_append, reps_len, List.length_singleton]; omega)) ?_
        rintro v2 H2 ⟨hb2, kp2⟩
        have g02 := kp2.get _ _ g0' (firmBut_row (by decide))
        simp -implicitDefEqProofs only [↓v_lenS, ZZ, Nat.reduceBEq, reduceIte, Nat.reduceAdd, Nat.reduceLeDiff, Nat.reduceEqDiff, Nat.reduceBneDiff, h5, hw]
        refine hK _ _ ⟨?_, ?_, ?_, g02, kp2.low (kp'.low low), hb2⟩
        all_goals simp -implicitDefEqProofs only [↓v_lenS, ZZ, Nat.reduceBEq, reduceIte, Nat.reduceAdd, Nat.reduceLeDiff, Nat.reduceEqDiff, Nat.reduceBneDiff, h1, h4]
    · rintro fr H K' ⟨h1, h4, h5, g0, low, hb⟩ hKe hKr
      have hn0 : ¬ ((l.length : Int) - 1 - (l.length : Int)) ≥ 0 := by omega
      have htr : topS l l.length = decN a := by unfold topS; rw [if_neg (by omega), topV_all, hva]
      have hsl := topS_len hu l.length
      rw [htr] at hb hsl
      have hlen := len48 (n := m + 1) hb
      obtain ⟨H2, hstr⟩ := string51 (n := m + 1) hb (decN_256 a) (by omega)
      have hiff := decN_len_le (n := a) (k := 200) (by omega)
      have hcl : 1 + (decN a).length ≤ 4611686018427387904 := by omega
      have hcl' : 0 + 1 + (decN a).length ≤ 4611686018427387904 := by omega
      by_cases hsh : a < 10 ^ 200
      · have hgt : ¬ (((decN a).length : Nat) : Int) > 200 := by have := hiff.2 hsh; omega
        have hop : opT (if neg then -(a : Int) else (a : Int)) = .tuple [.str (if neg then 45 :: decN a else decN a), .bool true] := by
          unfold opT opZ
          rw [hna, if_pos hsh, decide_eq_true hsh]
          cases neg with
          | true => simp only [if_true]; rw [decZ_neg (by omega)]
          | false => simp only [Bool.false_eq_true, if_false]; rw [decZ_nonneg]
        rw [hop]
        cases neg with
        | true =>
          simp -implicitDefEqProofs only [c121_l0, ↓v_lenS, ZZ, Nat.reduceBEq, reduceIte, Nat.reduceAdd, Nat.reduceLeDiff, Nat.reduceEqDiff, Nat.reduceBneDiff, CL, h1, h4, h5, hn0, hKe, k_blockE, hlen, hgt, g0, hstr, hcl, hcl', gives_ret]
          exact ⟨_, rfl⟩
        | false =>
          simp -implicitDefEqProofs only [c121_l0, ↓v_lenS, ZZ, Nat.reduceBEq, reduceIte, Nat.reduceAdd, Nat.reduceLeDiff, Nat.reduceEqDiff, Nat.reduceBneDiff, CL, h1, h4, h5, hn0, hKe, k_blockE, hlen, hgt, g0, hstr, gives_ret, Bool.false_eq_true, if_false]
          exact ⟨_, rfl⟩
      · have hgt : (((decN a).length : Nat) : Int) > 200 := by
          have : ¬ (decN a).length ≤ 200 := fun h => hsh (hiff.1 h)
          omega
        have hop : opT (if neg then -(a : Int) else (a : Int)) = .tuple [.str [], .bool false] := by
          unfold opT opZ
          rw [hna, if_neg hsh, decide_eq_false hsh]
        rw [hop]
        simp -implicitDefEqProofs only [c121_l0, ↓v_lenS, ZZ, Nat.reduceBEq, reduceIte, Nat.reduceAdd, Nat.reduceLeDiff, Nat.reduceEqDiff, Nat.reduceBneDiff, CL, h1, h4, h5, hn0, hKe, k_blockE, hlen, hgt, gives_ret]
        exact ⟨_, rfl⟩
    · refine ⟨?_, ?_, ?_, ?_, HLow.bare.push.push, .nilp, .nils, .inl rfl, ?_, ?_⟩
      any_goals simp -implicitDefEqProofs only [↓v_lenS, ZZ, Nat.reduceBEq, reduceIte, Nat.reduceAdd, Nat.reduceLeDiff, Nat.reduceEqDiff, Nat.reduceBneDiff]
      · simp
      · exact Acc.nil
end Go.Lite

/-
  Sums, differences, comparisons of numbers' texts, as the program does them.
-/
namespace Go.Lite
open Go Go.Proofs
def valZ (neg : Bool) (n : Nat) : Int := if neg then -(n : Int) else (n : Int)
theorem valZ_abs (z : Int) : valZ (decide (z < 0)) z.natAbs = z := by
  unfold valZ
  by_cases h : z < 0
  · rw [decide_eq_true h, if_pos rfl]; omega
  · rw [decide_eq_false h, if_neg (by simp)]; omega
def sumS (p : Bool) (a : Nat) (q : Bool) (b : Nat) : Bool × Nat := if p = q then (p, a + b) else if a < b then (q, b - a) else (p, a - b)
theorem sumS_val (p : Bool) (a : Nat) (q : Bool) (b : Nat) : valZ (sumS p a q b).1 (sumS p a q b).2 = valZ p a + valZ q b := by
  unfold sumS valZ
  by_cases h : p = q
  · subst h; rw [if_pos rfl]; cases p <;> simp <;> omega
  · rw [if_neg h]
    by_cases hl : a < b
    · rw [if_pos hl]; cases p <;> cases q <;> simp at h ⊢ <;> omega
    · rw [if_neg hl]; cases p <;> cases q <;> simp at h ⊢ <;> omega
theorem sumS_le (p : Bool) (a : Nat) (q : Bool) (b : Nat) : (sumS p a q b).2 ≤ a + b := by
  unfold sumS; split
  · exact Nat.le_refl _
  · split <;> simp <;> omega
theorem limbs_small {n k m : Nat} (h : n < 10 ^ k) (hk : k ≤ 9 * m) : (limbs BB n).length ≤ m := by
  refine limbs_len_le BB2 (Nat.lt_of_lt_of_le h ?_)
  have : BB ^ m = 10 ^ (9 * m) := by rw [Nat.pow_mul]
  rw [this]
  exact Nat.pow_le_pow_right (by omega) hk
theorem limbs_mono {a b : Nat} (h : a ≤ b) : (limbs BB a).length ≤ (limbs BB b).length := limbs_len_le BB2 (Nat.lt_of_le_of_lt h (limbs_lt_iff BB2 b))
theorem negS_decZ (z : Int) : negS (decZ z) = decide (z < 0) := by
  unfold decZ
  by_cases h : z < 0
  · rw [if_pos h, decide_eq_true h]; rfl
  · rw [if_neg h, decide_eq_false h]
    obtain ⟨c, h1, h2, h3⟩ := decN_first z.natAbs
    cases hd : decN z.natAbs with
    | nil => rfl
    | cons d t =>
      rw [hd] at h1
      simp at h1
      subst h1
      simp [negS]; omega
theorem cutS_decZ (z : Int) : cutS (decZ z) = decN z.natAbs := by
  unfold decZ
  by_cases h : z < 0
  · rw [if_pos h]; simp [cutS]
  · rw [if_neg h]
    obtain ⟨c, h1, h2, h3⟩ := decN_first z.natAbs
    cases hd : decN z.natAbs with
    | nil => rfl
    | cons d t =>
      rw [hd] at h1
      simp at h1
      subst h1
      simp [cutS]; omega
theorem decZ_len {z : Int} {k : Nat} (h : z.natAbs < 10 ^ k) (hk : 0 < k) : (decZ z).length ≤ k + 1 := by
  have := (decN_len_le hk).2 h
  unfold decZ; split <;> simp <;> omega
def numV (z : Int) : AV := .agg [.bool (decide (z < 0)), vN true (limbs BB z.natAbs)]
theorem load30z (z : Int) {k : Nat} (h : z.natAbs < 10 ^ k) (hk : k ≤ 2000) : Ret P5 120 [.str (decZ z)] (numV z) := by
  have h1 : z.natAbs < 10 ^ (k + 1) := Nat.lt_of_lt_of_le h (Nat.pow_le_pow_right (by omega) (by omega))
  have := load30 (decZ z) (by rw [cutS_decZ]; exact decN_digs _) (by have := decZ_len h1 (by omega); omega)
  rwa [negS_decZ, cutS_decZ, dval_decN] at this
theorem sum31 (p q f g : Bool) (a b : Nat) (ha : (limbs BB a).length ≤ 800000) (hb : (limbs BB b).length ≤ 800000) :
    Ret P5 119 [.agg [.bool p, vN f (limbs BB a)], .agg [.bool q, vN g (limbs BB b)]] (.agg [.bool (sumS p a q b).1, vN true (limbs BB (sumS p a q b).2)]) := by
  have hua := limbs_below BB2 a
  have hub := limbs_below BB2 b
  have hva := lval_limbs BB2 a
  have hvb := lval_limbs BB2 b
  refine Ret.of rfl (code119 _ _) rfl rfl (fun H => by simp -implicitDefEqProofs only [↓v_lenS, ZZ, Nat.reduceBEq, reduceIte, Nat.reduceAdd, Nat.reduceLeDiff, Nat.reduceEqDiff, Nat.reduceBneDiff, BS]) ?_
  have c38' := compare38 f g _ _ hua hub (limbs_last BB2 a) (limbs_last BB2 b) (by omega) (by omega)
  have c37' := plus37 f g _ _ hua hub (by omega) (by omega)
  rw [hva, hvb] at c38' c37'
  by_cases hl : a < b
  · have c39' := less39 g f _ _ hub hua (by omega) (limbs_mono (by omega)) (by omega)
    rw [hva, hvb] at c39'
    refine (c37'.and (c38'.and c39')).mono fun n e H => ?_
    obtain ⟨e1, e2, e3⟩ := e
    have hc : cmpN a b = -1 := by rw [cmpN, if_pos hl]
    rw [hc] at e2
    have h1 : ((-1 : Int) < 0) = True := by simp
    cases p <;> cases q <;> simp only [sumS, reduceIte, hl, Bool.false_eq_true, Bool.true_eq_false]
    all_goals simp -implicitDefEqProofs only [c119, ↓v_lenS, ZZ, Nat.reduceBEq, reduceIte, Nat.reduceAdd, Nat.reduceLeDiff, Nat.reduceEqDiff, Nat.reduceBneDiff, CL, BS, e1, e2, e3, h1, Ends, gives_ret]
    all_goals exact ⟨_, rfl⟩
  · have c39' := less39 f g _ _ hua hub (by omega) (limbs_mono (by omega)) (by omega)
    rw [hva, hvb] at c39'
    refine (c37'.and (c38'.and c39')).mono fun n e H => ?_
    obtain ⟨e1, e2, e3⟩ := e
    have hc : ¬ cmpN a b < 0 := by rw [cmpN, if_neg hl]; split <;> omega
    generalize cmpN a b = c at *
    cases p <;> cases q <;> simp only [sumS, reduceIte, hl, Bool.false_eq_true, Bool.true_eq_false]
    all_goals simp -implicitDefEqProofs only [c119, ↓v_lenS, ZZ, Nat.reduceBEq, reduceIte, Nat.reduceAdd, Nat.reduceLeDiff, Nat.reduceEqDiff, Nat.reduceBneDiff, CL, BS, e1, e2, e3, hc, Ends, gives_ret]
    all_goals exact ⟨_, rfl⟩
theorem sum31z (x y : Int) (f : Bool) {k : Nat} (hx : x.natAbs < 10 ^ k) (hy : y.natAbs < 10 ^ k) (hk : k ≤ 2000) :
    ∃ s c, Ret P5 119 [numV x, .agg [.bool (decide (y < 0)), vN f (limbs BB y.natAbs)]] (.agg [.bool s, vN true (limbs BB c)]) ∧ valZ s c = x + y ∧ (limbs BB c).length ≤ 1000 := by
  refine ⟨_, _, sum31 _ _ true f _ _ (Nat.le_trans (limbs_small hx (m := 500) (by omega)) (by omega)) (Nat.le_trans (limbs_small hy (m := 500) (by omega)) (by omega)), ?_, ?_⟩
  · rw [sumS_val, valZ_abs, valZ_abs]
  · have h1 := sumS_le (decide (x < 0)) x.natAbs (decide (y < 0)) y.natAbs
    have h2 : (10 : Nat) ^ (k + 1) = 10 ^ k * 10 := Nat.pow_succ ..
    exact limbs_small (k := k + 1) (by omega) (by omega)
theorem text32z {s : Bool} {c : Nat} {z : Int} (h : valZ s c = z) (hl : (limbs BB c).length ≤ 1000) : Ret P5 121 [.agg [.bool s, vN true (limbs BB c)]] (opT z) := by
  rw [← h]; exact text32 true s c (by omega)
theorem add21 (x y : Int) {k : Nat} (hx : x.natAbs < 10 ^ k) (hy : y.natAbs < 10 ^ k) (hk : k ≤ 2000) : Ret P5 96 [.str (decZ x), .str (decZ y)] (opT (x + y)) := by
  obtain ⟨s, c, e3, hv, hl⟩ := sum31z x y true hx hy hk
  refine Ret.of rfl (code96 _ _) rfl rfl (fun H => by simp -implicitDefEqProofs only [↓v_lenS, ZZ, Nat.reduceBEq, reduceIte, Nat.reduceAdd, Nat.reduceLeDiff, Nat.reduceEqDiff, Nat.reduceBneDiff]) ?_
  refine ((load30z x hx hk).and ((load30z y hy hk).and (e3.and (text32z hv hl)))).mono fun n e H => ?_
  obtain ⟨e1, e2, e3, e4⟩ := e
  unfold opT at e4 ⊢
  unfold numV at e1 e2 e3
  simp -implicitDefEqProofs only [c96, ↓v_lenS, ZZ, Nat.reduceBEq, reduceIte, Nat.reduceAdd, Nat.reduceLeDiff, Nat.reduceEqDiff, Nat.reduceBneDiff, CL, BS, e1, e2, e3, e4, Ends, gives_ret]
  exact ⟨_, rfl⟩
theorem neg_flag {y : Int} (b : Bool) : valZ (!decide (y < 0)) y.natAbs = -y := by
  unfold valZ
  by_cases h : y < 0
  · rw [decide_eq_true h, Bool.not_true, if_neg (by simp)]; omega
  · rw [decide_eq_false h, Bool.not_false, if_pos rfl]; omega
theorem sub18 (x y : Int) {k : Nat} (hx : x.natAbs < 10 ^ k) (hy : y.natAbs < 10 ^ k) (hk : k ≤ 2000) : Ret P5 97 [.str (decZ x), .str (decZ y)] (opT (x - y)) := by
  have e3 := sum31 (decide (x < 0)) (!decide (y < 0)) true true x.natAbs y.natAbs (Nat.le_trans (limbs_small hx (m := 500) (by omega)) (by omega)) (Nat.le_trans (limbs_small hy (m := 500) (by omega)) (by omega))
  have hv := sumS_val (decide (x < 0)) x.natAbs (!decide (y < 0)) y.natAbs
  rw [valZ_abs, neg_flag true] at hv
  have h1 := sumS_le (decide (x < 0)) x.natAbs (!decide (y < 0)) y.natAbs
  have h2 : (10 : Nat) ^ (k + 1) = 10 ^ k * 10 := Nat.pow_succ ..
  have hl : (limbs BB (sumS (decide (x < 0)) x.natAbs (!decide (y < 0)) y.natAbs).2).length ≤ 1000 := limbs_small (k := k + 1) (by omega) (by omega)
  generalize sumS (decide (x < 0)) x.natAbs (!decide (y < 0)) y.natAbs = r at *
  refine Ret.of rfl (code97 _ _) rfl rfl (fun H => by simp -implicitDefEqProofs only [↓v_lenS, ZZ, Nat.reduceBEq, reduceIte, Nat.reduceAdd, Nat.reduceLeDiff, Nat.reduceEqDiff, Nat.reduceBneDiff]) ?_
  refine ((load30z x hx hk).and ((load30z y hy hk).and (e3.and (text32z (s := r.1) (c := r.2) (z := x - y) (by rw [hv]; omega) hl)))).mono fun n e H => ?_
  obtain ⟨e1, e2, e3, e4⟩ := e
  unfold opT at e4 ⊢
  unfold numV at e1 e2
  simp -implicitDefEqProofs only [c97, ↓v_lenS, ZZ, Nat.reduceBEq, reduceIte, Nat.reduceAdd, Nat.reduceLeDiff, Nat.reduceEqDiff, Nat.reduceBneDiff, CL, BS, e1, e2, e3, e4, Ends, gives_ret]
  exact ⟨_, rfl⟩
theorem cmp19 (x y : Int) {k : Nat} (hx : x.natAbs < 10 ^ k) (hy : y.natAbs < 10 ^ k) (hk : k ≤ 2000) : Ret P5 99 [.str (decZ x), .str (decZ y)] (.int .i64 (sgn (x - y))) := by
  have e3 := sum31 (decide (x < 0)) (!decide (y < 0)) true true x.natAbs y.natAbs (Nat.le_trans (limbs_small hx (m := 500) (by omega)) (by omega)) (Nat.le_trans (limbs_small hy (m := 500) (by omega)) (by omega))
  have hv := sumS_val (decide (x < 0)) x.natAbs (!decide (y < 0)) y.natAbs
  rw [valZ_abs, neg_flag true] at hv
  have hly := limbs_small hy (m := 500) (by omega)
  have hc33 : Ev fun n => ∀ H : Heap, callN P5 n 124 [vN true (limbs BB y.natAbs)] H = some (.ret (vN true (limbs BB y.natAbs)), H) := Ev.succ (Ev.of fun n H => by
    rw [callN_own (P := P5) (g := ownClone 1 8) rfl]
    exact ownClone_list nat1_len nat1_still nat1_flat (by omega) (by omega))
  generalize sumS (decide (x < 0)) x.natAbs (!decide (y < 0)) y.natAbs = r at *
  obtain ⟨s, c⟩ := r
  refine Ret.of rfl (code99 _ _) rfl rfl (fun H => by simp -implicitDefEqProofs only [↓v_lenS, ZZ, Nat.reduceBEq, reduceIte, Nat.reduceAdd, Nat.reduceLeDiff, Nat.reduceEqDiff, Nat.reduceBneDiff]) ?_
  refine ((load30z x hx hk).and ((load30z y hy hk).and (e3.and hc33))).mono fun n e H => ?_
  obtain ⟨e1, e2, e3, e4⟩ := e
  unfold numV at e1 e2
  simp only at hv e3
  by_cases h0 : c = 0
  · have hz : (((limbs BB c).length : Int) == 0) = true := by rw [h0, limbs_zero]; rfl
    have hs : sgn (x - y) = 0 := by
      have : x - y = 0 := by unfold valZ at hv; split at hv <;> omega
      rw [this]; rfl
    rw [hs]
    simp -implicitDefEqProofs only [c99, ↓v_lenS, ZZ, Nat.reduceBEq, reduceIte, Nat.reduceAdd, Nat.reduceLeDiff, Nat.reduceEqDiff, Nat.reduceBneDiff, CL, BS, e1, e2, e3, e4, hz, Ends, gives_ret]
    exact ⟨_, rfl⟩
  · have hz : (((limbs BB c).length : Int) == 0) = false := by
      rw [limbs_pos BB2 (by omega)]; simp; omega
    cases s with
    | true =>
      have hs : sgn (x - y) = -1 := sgn_neg (by unfold valZ at hv; simp at hv; omega)
      rw [hs]
      simp -implicitDefEqProofs only [c99, ↓v_lenS, ZZ, Nat.reduceBEq, reduceIte, Nat.reduceAdd, Nat.reduceLeDiff, Nat.reduceEqDiff, Nat.reduceBneDiff, CL, BS, e1, e2, e3, e4, hz, Ends, gives_ret]
      exact ⟨_, rfl⟩
    | false =>
      have hs : sgn (x - y) = 1 := sgn_pos (by unfold valZ at hv; simp at hv; omega)
      rw [hs]
      simp -implicitDefEqProofs only [c99, ↓v_lenS, ZZ, Nat.reduceBEq, reduceIte, Nat.reduceAdd, Nat.reduceLeDiff, Nat.reduceEqDiff, Nat.reduceBneDiff, CL, BS, e1, e2, e3, e4, hz, Ends, gives_ret]
      exact ⟨_, rfl⟩
end Go.Lite

/-
  Products, as the program does them.
-/
namespace Go.Lite
open Go Go.Proofs
theorem rep_zeros : ∀ n, rep [AV.int .i64 0] n = (List.replicate n 0).flatMap nat1
  | 0 => rfl
  | n + 1 => by rw [rep, rep_zeros n, List.replicate_succ, List.flatMap_cons]; rfl
theorem nats_at {Z : List Nat} {p : Nat} (h : p < Z.length) : (Z.flatMap nat1)[p]? = some (.int .i64 (atN Z p : Nat)) := by
  have h1 := flat_at nat1_len Z p
  rw [Nat.mul_one, atN_at h] at h1
  have h2 : ((Z.flatMap nat1).drop p).take 1 = [.int .i64 (atN Z p : Nat)] := h1
  have h3 : (((Z.flatMap nat1).drop p).take 1)[0]? = some (.int .i64 (atN Z p : Nat)) := by rw [h2]; rfl
  rwa [drop_take0] at h3
theorem nats_set {Z : List Nat} {p v : Nat} (h : p < Z.length) : List.take p (Z.flatMap nat1) ++ [AV.int .i64 (v : Int)] ++ List.drop (p + 1) (Z.flatMap nat1) = (Z.set p v).flatMap nat1 := by
  have h1 := flat_take nat1_len Z p
  have h2 := flat_drop nat1_len Z (p + 1)
  rw [Nat.mul_one] at h1 h2
  rw [h1, h2, List.set_eq_take_append_cons_drop, if_pos h, List.flatMap_append, List.flatMap_cons, List.append_assoc]
  rfl
theorem made_shut {Z : List Nat} {H : Heap} {k : Nat} (hne : 0 < Z.length) (hk : H.t.get k = some (.row (Z.flatMap nat1) 0 false none)) : shutV (.slice (.new k) 0 Z.length (.fix Z.length 1)) H = some (vN true Z, H.put k (.row (Z.flatMap nat1) 0 true none)) := by
  rw [shutV_slice]
  have key : ∀ d, shutC (d + 1) (.slice (.new k) 0 Z.length (.fix Z.length 1)) H = some (vN true Z, H.put k (.row (Z.flatMap nat1) 0 true none)) := fun d => by
    simp only [shutC, hk, shutRow, List.drop_zero, Cap.es, Nat.mul_one]
    rw [List.take_of_length_le (Nat.le_of_eq (nats_len Z)), if_pos ⟨nats_len Z, .inr (by decide)⟩, (nats_still Z).map]
    cases Z with
    | nil => simp at hne
    | cons z Z => rfl
  exact key 2047
theorem mul_val (x y : Int) : valZ (!(decide (x < 0) == decide (y < 0))) (x.natAbs * y.natAbs) = x * y := by
  unfold valZ
  rcases Int.natAbs_eq x with h1 | h1 <;> rcases Int.natAbs_eq y with h2 | h2
  all_goals
    generalize x.natAbs = a at *
    generalize y.natAbs = b at *
    subst h1; subst h2
  · have e1 : decide ((a : Int) < 0) = false := decide_eq_false (by omega)
    have e2 : decide ((b : Int) < 0) = false := decide_eq_false (by omega)
    rw [e1, e2]; simp
  · have e1 : decide ((a : Int) < 0) = false := decide_eq_false (by omega)
    rw [e1]
    by_cases hb : b = 0
    · subst hb; simp
    · have e2 : decide (-(b : Int) < 0) = true := decide_eq_true (by omega)
      rw [e2]; simp [Int.mul_neg]
  · have e2 : decide ((b : Int) < 0) = false := decide_eq_false (by omega)
    rw [e2]
    by_cases ha : a = 0
    · subst ha; simp
    · have e1 : decide (-(a : Int) < 0) = true := decide_eq_true (by omega)
      rw [e1]; simp [Int.neg_mul]
  · by_cases ha : a = 0
    · subst ha; simp
    · by_cases hb : b = 0
      · subst hb; simp
      · have e1 : decide (-(a : Int) < 0) = true := decide_eq_true (by omega)
        have e2 : decide (-(b : Int) < 0) = true := decide_eq_true (by omega)
        rw [e1, e2]; simp [Int.neg_mul_neg]
def MS (p q : Bool) (x y : List Nat) (Z : List Nat) (i : Nat) (fr : Fr) (H : Heap) : Prop :=
  fr 6 = .ptr (.new 0) 0 ∧ fr 7 = .ptr (.new 1) 0 ∧ fr 8 = .slice (.new 2) 0 (x.length + y.length + 1) (.fix (x.length + y.length + 1) 1) ∧ fr 28 = vN true x ∧ fr 29 = .int .i64 (x.length : Nat) ∧ fr 30 = .int .i64 (i : Nat) ∧
  H.t.get 0 = some (.row [.bool p, vN true x] 0 false (some 204)) ∧ H.t.get 1 = some (.row [.bool q, vN true y] 0 false (some 204)) ∧ H.t.get 2 = some (.row (Z.flatMap nat1) 0 false none)
theorem mul_l0 {n m : Nat} {p q : Bool} {x y Z : List Nat} {i a : Nat} {fr : Fr} {H : Heap} {KK : Ex → Fr → Heap → R} {Q : AV → Heap → Prop} (hx : Under BB x) (hy : Under BB y) (hZ : Under BB Z) (hi : i < x.length) (hZl : Z.length = x.length + y.length + 1) (ha : a < BB) (hv : lval BB Z < BB ^ (i + y.length)) (hlx : x.length ≤ 300000) (hly : y.length ≤ 300000)
    (hm : y.length + 2 < m) (hat : ∀ j, j < y.length + 1 → ∀ H, callN P5 n 122 [vN true y, .int .i64 (j : Nat)] H = some (.ret (.int .i64 (atN y j : Nat)), H))
    (h0 : MS p q x y Z i fr H) (h9 : fr 9 = .int .i64 (i : Nat)) (h10 : fr 10 = .int .i64 (a : Nat)) (h11 : fr 11 = .int .i64 (0 : Nat)) (h12 : fr 12 = .int .i64 (0 : Nat))
    (hK : ∀ (fr : Fr) (H : Heap), MS p q x y (mulIn BB a y Z i (y.length + 1)).1 i fr H → Gives (KK (.exit 2) fr H) Q) :
    Gives (loopR (callN P5 n) n c98_l0 m fr H KK) Q := by
  refine loop_rounds (y.length + 1) (fun j fr H => MS p q x y (mulIn BB a y Z i j).1 i fr H ∧ fr 9 = .int .i64 (i : Nat) ∧ fr 10 = .int .i64 (a : Nat) ∧ fr 11 = .int .i64 ((mulIn BB a y Z i j).2 : Nat) ∧ fr 12 = .int .i64 (j : Nat)) ?_ ?_ m 0 _ _ (by omega) (by omega) ⟨h0, h9, h10, h11, h12⟩
  · rintro j fr H K' hj ⟨⟨h6, h7, h8, h28, h29, h30, g0, g1, g2⟩, h9, h10, h11, h12⟩ hKe hKr hK'
    obtain ⟨p1, p2, p3, p4⟩ := mulIn_ok (i := i) BB2 ha hy hZ j (by omega)
    have hBB := BB_eq
    have a1 := atN_lt (by omega) p2 (i + j)
    have a2 := atN_lt (by omega) hy j
    have hr := mul_room a1 ha a2 p3
    have hBBB : BB * BB = 1000000000000000000 := rfl
    have e34 := hat j hj
    by_cases hst : j < y.length ∨ 0 < (mulIn BB a y Z i j).2
    · have hnx : mulIn BB a y Z i (j + 1) = ((mulIn BB a y Z i j).1.set (i + j) ((atN (mulIn BB a y Z i j).1 (i + j) + a * atN y j + (mulIn BB a y Z i j).2) % BB), (atN (mulIn BB a y Z i j).1 (i + j) + a * atN y j + (mulIn BB a y Z i j).2) / BB) := rfl
      rw [hnx] at hK'
      generalize (mulIn BB a y Z i j).2 = c at *
      generalize (mulIn BB a y Z i j).1 = W at *
      have hpl : i + j < W.length := by omega
      have hpN : i + j < x.length + y.length + 1 := by omega
      have hat' := nats_at hpl
      have hset := fun v => nats_set (v := v) hpl
      have hlen := nats_len W
      have hplC : i + j + 1 ≤ (W.flatMap nat1).length := by omega
      generalize hz : atN W (i + j) = z at *
      generalize hb : atN y j = b at *
      generalize hab : a * b = ab at *
      have w0 : IntKind.i64.wrap ((i : Int) + (j : Int)) = ((i + j : Nat) : Int) := wrap_nat (by omega)
      have w1 : IntKind.i64.wrap ((a : Int) * (b : Int)) = ((ab : Nat) : Int) := by
        have : (a : Int) * (b : Int) = ((ab : Nat) : Int) := by rw [← hab]; simp
        rw [this, wrap64 (by omega) (by omega)]
      have w2 : IntKind.i64.wrap ((z : Int) + (ab : Int)) = ((z + ab : Nat) : Int) := by rw [wrap64 (by omega) (by omega)]; rfl
      have w3 : IntKind.i64.wrap (((z + ab : Nat) : Int) + (c : Int)) = ((z + ab + c : Nat) : Int) := by rw [wrap64 (by omega) (by omega)]; rfl
      have w4 := quo_nat (a := z + ab + c) (b := BB) (by omega) (by omega)
      have w5 := rem_nat (z + ab + c) BB
      rw [BBi] at w4 w5
      have w6 : ((1000000000 : Int) == 0) = false := rfl
      have w7 : ¬ (1000000000 : Int) = 0 := by omega
      have w8 := wrap_succ (i := j) (n := y.length + 1) hj (by omega)
      generalize z + ab + c = d at *
      have hset' := hset (d % BB)
      generalize hC : W.flatMap nat1 = C at *
      generalize hC' : (W.set (i + j) (d % BB)).flatMap nat1 = C' at *
      by_cases hlt : j < y.length
      · have hlt' : (j : Int) < (y.length : Int) := by omega
        simp -implicitDefEqProofs only [c98_l0, ↓v_lenS, ZZ, Nat.reduceBEq, reduceIte, Nat.reduceAdd, Nat.reduceLeDiff, Nat.reduceEqDiff, Nat.reduceBneDiff, CL, BS, Nat.mul_one, h6, h7, h8, h9, h10, h11, h12, g0, g1, g2, hlt', e34, hpN, hat', hplC, hset', w0, w1, w2, w3, w4, w5, w6, w7, w8]
        refine hK' _ _ ⟨⟨?_, ?_, ?_, ?_, ?_, ?_, ?_, ?_, ?_⟩, ?_, ?_, ?_, ?_⟩
        all_goals simp -implicitDefEqProofs only [↓v_lenS, ZZ, Nat.reduceBEq, reduceIte, Nat.reduceAdd, Nat.reduceLeDiff, Nat.reduceEqDiff, Nat.reduceBneDiff, h6, h7, h8, h9, h10, h28, h29, h30, g0, g1, hC']
      · have hlt' : ¬ (j : Int) < (y.length : Int) := by omega
        have hc0 : (c : Int) > 0 := by have := hst.resolve_left hlt; omega
        simp -implicitDefEqProofs only [c98_l0, ↓v_lenS, ZZ, Nat.reduceBEq, reduceIte, Nat.reduceAdd, Nat.reduceLeDiff, Nat.reduceEqDiff, Nat.reduceBneDiff, CL, BS, Nat.mul_one, h6, h7, h8, h9, h10, h11, h12, g0, g1, g2, hlt', hc0, e34, hpN, hat', hplC, hset', w0, w1, w2, w3, w4, w5, w6, w7, w8]
        refine hK' _ _ ⟨⟨?_, ?_, ?_, ?_, ?_, ?_, ?_, ?_, ?_⟩, ?_, ?_, ?_, ?_⟩
        all_goals simp -implicitDefEqProofs only [↓v_lenS, ZZ, Nat.reduceBEq, reduceIte, Nat.reduceAdd, Nat.reduceLeDiff, Nat.reduceEqDiff, Nat.reduceBneDiff, h6, h7, h8, h9, h10, h28, h29, h30, g0, g1, hC']
    · obtain rfl : j = y.length := by omega
      have hc : (mulIn BB a y Z i y.length).2 = 0 := by omega
      have hstop := mulIn_stop (i := i) BB2 ha hy hZ (by omega) hc
      rw [hstop] at hK
      rw [hc] at h11
      have hc0 : ¬ ((0 : Nat) : Int) > 0 := by omega
      simp -implicitDefEqProofs only [c98_l0, ↓v_lenS, ZZ, Nat.reduceBEq, reduceIte, Nat.reduceAdd, Nat.reduceLeDiff, Nat.reduceEqDiff, Nat.reduceBneDiff, BS, h7, h11, h12, g1, Int.lt_irrefl, hc0, hKe]
      refine hK _ _ ⟨?_, ?_, ?_, ?_, ?_, ?_, g0, g1, g2⟩
      all_goals simp -implicitDefEqProofs only [↓v_lenS, ZZ, Nat.reduceBEq, reduceIte, Nat.reduceAdd, Nat.reduceLeDiff, Nat.reduceEqDiff, Nat.reduceBneDiff, h6, h7, h8, h28, h29, h30]
  · rintro fr H K' ⟨⟨h6, h7, h8, h28, h29, h30, g0, g1, g2⟩, h9, h10, h11, h12⟩ hKe hKr
    have hc := (mulIn_end (i := i) BB2 ha hy hZ (by omega) hv).1
    rw [hc] at h11
    have hc0 : ¬ ((0 : Nat) : Int) > 0 := by omega
    have hlt' : ¬ ((y.length + 1 : Nat) : Int) < (y.length : Int) := by omega
    simp -implicitDefEqProofs only [c98_l0, ↓v_lenS, ZZ, Nat.reduceBEq, reduceIte, Nat.reduceAdd, Nat.reduceLeDiff, Nat.reduceEqDiff, Nat.reduceBneDiff, BS, h7, h11, h12, g1, hlt', hc0, hKe]
    refine hK _ _ ⟨?_, ?_, ?_, ?_, ?_, ?_, g0, g1, g2⟩
    all_goals simp -implicitDefEqProofs only [↓v_lenS, ZZ, Nat.reduceBEq, reduceIte, Nat.reduceAdd, Nat.reduceLeDiff, Nat.reduceEqDiff, Nat.reduceBneDiff, h6, h7, h8, h28, h29, h30]
theorem mul20 (x y : Int) {k : Nat} (hx : x.natAbs < 10 ^ k) (hy : y.natAbs < 10 ^ k) (hk : k ≤ 2000) : Ret P5 98 [.str (decZ x), .str (decZ y)] (opT (x * y)) := by
  have hl1 := limbs_small hx (m := 300) (by omega)
  have hl2 := limbs_small hy (m := 300) (by omega)
  have hu1 := limbs_below BB2 x.natAbs
  have hu2 := limbs_below BB2 y.natAbs
  have hv1 := lval_limbs BB2 x.natAbs
  have hv2 := lval_limbs BB2 y.natAbs
  have hlz := load30z x hx hk
  have hlz2 := load30z y hy hk
  unfold numV at hlz hlz2
  have htx := text32 true (!(decide (x < 0) == decide (y < 0))) (x.natAbs * y.natAbs) (by
    have h1 : x.natAbs * y.natAbs < 10 ^ (k + k) := by rw [Nat.pow_add]; exact Nat.mul_lt_mul'' hx hy
    have := limbs_small h1 (m := 600) (by omega)
    omega)
  have hmv : (if (!(decide (x < 0) == decide (y < 0))) = true then -((x.natAbs * y.natAbs : Nat) : Int) else ((x.natAbs * y.natAbs : Nat) : Int)) = x * y := mul_val x y
  rw [hmv] at htx
  generalize limbs BB x.natAbs = X at *
  generalize limbs BB y.natAbs = Y at *
  have hok := mulOut_ok BB2 hu1 hu2
  have hfin := hok X.length (Nat.le_refl _)
  rw [List.take_of_length_le (Nat.le_refl _), hv1, hv2] at hfin
  have hres : trimL (mulOut BB X Y X.length) = limbs BB (x.natAbs * y.natAbs) := by rw [← hfin.2.2, limbs_trim BB2 hfin.2.1]
  have ht35 := trim35 true (mulOut BB X Y X.length) (by rw [hfin.1]; omega)
  rw [hres] at ht35
  refine Ret.of rfl (code98 _ _) rfl rfl (fun H => by simp -implicitDefEqProofs only [↓v_lenS, ZZ, Nat.reduceBEq, reduceIte, Nat.reduceAdd, Nat.reduceLeDiff, Nat.reduceEqDiff, Nat.reduceBneDiff]) ?_
  refine (hlz.and (hlz2.and (ht35.and (htx.and ((Ev.all (List.range (Y.length + 1)) fun j _ => at34 true Y j).and (Ev.ge (X.length + Y.length + 20))))))).mono fun n e H => ?_
  obtain ⟨e1, e2, e3, e4, e5, hge⟩ := e
  unfold opT at e4 ⊢
  have w0 : IntKind.i64.wrap ((X.length : Int) + (Y.length : Int)) = ((X.length + Y.length : Nat) : Int) := wrap_nat (by omega)
  have w1 : IntKind.i64.wrap (((X.length + Y.length : Nat) : Int) + 1) = ((X.length + Y.length + 1 : Nat) : Int) := wrap_succ (n := X.length + Y.length + 1) (by omega) (by omega)
  have c1 : (X.length + Y.length + 1) * 8 ≤ 1099511627776 ∧ X.length + Y.length + 1 ≤ 1099511627776 := by omega
  simp -implicitDefEqProofs only [c98, ↓v_lenS, ZZ, Nat.reduceBEq, reduceIte, Nat.reduceAdd, Nat.reduceLeDiff, Nat.reduceEqDiff, Nat.reduceBneDiff, CL, BS, e1, e2, w0, w1, c1.1, c1.2, rep_zeros]
  refine loop_gen (fun e fr H => e = .exit 0 ∧ MS (decide (x < 0)) (decide (y < 0)) X Y (mulOut BB X Y X.length) X.length fr H) ?_ fun KK fin => ?_
  · rintro e fr H ⟨rfl, h6, h7, h8, h28, h29, h30, g0, g1, g2⟩
    have hsh := made_shut (by rw [hfin.1]; omega) g2
    rw [hfin.1] at hsh
    simp -implicitDefEqProofs only [↓v_lenS, ZZ, Nat.reduceBEq, reduceIte, Nat.reduceAdd, Nat.reduceLeDiff, Nat.reduceEqDiff, Nat.reduceBneDiff, CL, BS, k_blockE, h6, h7, h8, g0, g1, hsh, e3, e4, gives_ret]
    exact ⟨_, rfl⟩
  · refine loop_rounds X.length (fun i fr H => MS (decide (x < 0)) (decide (y < 0)) X Y (mulOut BB X Y i) i fr H) ?_ ?_ n 0 _ _ (by omega) (by omega) ?_
    · rintro i fr H K' hi ⟨h6, h7, h8, h28, h29, h30, g0, g1, g2⟩ hKe hKr hK
      obtain ⟨q1, q2, q3⟩ := hok i (by omega)
      have ha := atN_lt (by decide) hu1 i
      have hsm := mul_small BB2 hu1 hu2 (i := i) (by omega) q3
      have hia := iaddr_vN (f := true) (atN_at hi)
      have hlt : (i : Int) < (X.length : Int) := by omega
      have hw := wrap_succ (i := i) (n := X.length) hi (by omega)
      simp -implicitDefEqProofs only [c98_l1, ↓v_lenS, ZZ, Nat.reduceBEq, reduceIte, Nat.reduceAdd, Nat.reduceLeDiff, Nat.reduceEqDiff, Nat.reduceBneDiff, CL, BS, h28, h29, h30, hlt, hia]
      refine mul_l0 (Z := mulOut BB X Y i) (i := i) (a := atN X i) (p := decide (x < 0)) (q := decide (y < 0)) (x := X) (y := Y) hu1 hu2 q2 hi q1 ha hsm (by omega) (by omega) (by omega) (fun j hj H => e5 j (List.mem_range.2 hj) H) ⟨?_, ?_, ?_, ?_, ?_, ?_, g0, g1, g2⟩ ?_ ?_ ?_ ?_ ?_
      any_goals simp -implicitDefEqProofs only [↓v_lenS, ZZ, Nat.reduceBEq, reduceIte, Nat.reduceAdd, Nat.reduceLeDiff, Nat.reduceEqDiff, Nat.reduceBneDiff, h6, h7, h8, h28, h29, h30]
      any_goals rfl
      rintro fr H ⟨h6, h7, h8, h28, h29, h30, g0, g1, g2⟩
      simp -implicitDefEqProofs only [↓v_lenS, ZZ, Nat.reduceBEq, reduceIte, Nat.reduceAdd, Nat.reduceLeDiff, Nat.reduceEqDiff, Nat.reduceBneDiff, k_blockE, h30, hw]
      refine hK _ _ ⟨?_, ?_, ?_, ?_, ?_, ?_, g0, g1, g2⟩
      all_goals simp -implicitDefEqProofs only [↓v_lenS, ZZ, Nat.reduceBEq, reduceIte, Nat.reduceAdd, Nat.reduceLeDiff, Nat.reduceEqDiff, Nat.reduceBneDiff, h6, h7, h8, h28, h29]
    · rintro fr H K' ⟨h6, h7, h8, h28, h29, h30, g0, g1, g2⟩ hKe hKr
      simp -implicitDefEqProofs only [c98_l1, ↓v_lenS, ZZ, Nat.reduceBEq, reduceIte, Nat.reduceAdd, Nat.reduceLeDiff, Nat.reduceEqDiff, Nat.reduceBneDiff, h29, h30, Int.lt_irrefl, hKe]
      refine fin _ _ _ ⟨rfl, ?_, ?_, ?_, ?_, ?_, ?_, g0, g1, g2⟩
      all_goals simp -implicitDefEqProofs only [↓v_lenS, ZZ, Nat.reduceBEq, reduceIte, Nat.reduceAdd, Nat.reduceLeDiff, Nat.reduceEqDiff, Nat.reduceBneDiff, h6, h7, h8, h28, h29, h30]
    · refine ⟨?_, ?_, ?_, ?_, ?_, ?_, ?_, ?_, ?_⟩
      all_goals simp -implicitDefEqProofs only [↓v_lenS, ZZ, Nat.reduceBEq, reduceIte, Nat.reduceAdd, Nat.reduceLeDiff, Nat.reduceEqDiff, Nat.reduceBneDiff]
      all_goals rfl
end Go.Lite

/-
  Quotients, as the program does them.
-/
namespace Go.Lite
open Go Go.Proofs
theorem quo_val (x y : Int) : valZ (!(decide (x < 0) == decide (y < 0))) (x.natAbs / y.natAbs) = x.tdiv y := by
  unfold valZ
  rcases Int.natAbs_eq x with h1 | h1 <;> rcases Int.natAbs_eq y with h2 | h2
  all_goals
    generalize x.natAbs = a at *
    generalize y.natAbs = b at *
    subst h1; subst h2
  · have e1 : decide ((a : Int) < 0) = false := decide_eq_false (by omega)
    have e2 : decide ((b : Int) < 0) = false := decide_eq_false (by omega)
    rw [e1, e2, if_neg (by simp), Int.ofNat_tdiv]
  · have e1 : decide ((a : Int) < 0) = false := decide_eq_false (by omega)
    rw [e1, Int.tdiv_neg]
    by_cases hb : b = 0
    · subst hb; simp
    · have e2 : decide (-(b : Int) < 0) = true := decide_eq_true (by omega)
      rw [e2, if_pos (by simp), Int.ofNat_tdiv]
  · have e2 : decide ((b : Int) < 0) = false := decide_eq_false (by omega)
    rw [e2, Int.neg_tdiv]
    by_cases ha : a = 0
    · subst ha; simp
    · have e1 : decide (-(a : Int) < 0) = true := decide_eq_true (by omega)
      rw [e1, if_pos (by simp), Int.ofNat_tdiv]
  · rw [Int.neg_tdiv, Int.tdiv_neg, Int.neg_neg]
    by_cases ha : a = 0
    · subst ha; simp
    · by_cases hb : b = 0
      · subst hb; simp
      · have e1 : decide (-(a : Int) < 0) = true := decide_eq_true (by omega)
        have e2 : decide (-(b : Int) < 0) = true := decide_eq_true (by omega)
        rw [e1, e2, if_neg (by simp), Int.ofNat_tdiv]
theorem rem_val (x y : Int) : valZ (decide (x < 0)) (x.natAbs % y.natAbs) = x.tmod y := by
  unfold valZ
  rcases Int.natAbs_eq x with h1 | h1 <;> rcases Int.natAbs_eq y with h2 | h2
  all_goals
    generalize x.natAbs = a at *
    generalize y.natAbs = b at *
    subst h1; subst h2
  · have e1 : decide ((a : Int) < 0) = false := decide_eq_false (by omega)
    rw [e1, if_neg (by simp), Int.ofNat_tmod]
  · have e1 : decide ((a : Int) < 0) = false := decide_eq_false (by omega)
    rw [e1, if_neg (by simp), Int.tmod_neg, Int.ofNat_tmod]
  · rw [Int.neg_tmod, ← Int.ofNat_tmod]
    by_cases ha : a = 0
    · subst ha; simp
    · have e1 : decide (-(a : Int) < 0) = true := decide_eq_true (by omega)
      rw [e1, if_pos rfl]
  · rw [Int.neg_tmod, Int.tmod_neg, ← Int.ofNat_tmod]
    by_cases ha : a = 0
    · subst ha; simp
    · have e1 : decide (-(a : Int) < 0) = true := decide_eq_true (by omega)
      rw [e1, if_pos rfl]
theorem plusN (a b : Nat) (ha : (limbs BB a).length ≤ 800000) (hb : (limbs BB b).length ≤ 800000) : Ret P5 126 [vN true (limbs BB a), vN true (limbs BB b)] (vN true (limbs BB (a + b))) := by
  have := plus37 true true _ _ (limbs_below BB2 a) (limbs_below BB2 b) (by omega) (by omega)
  rwa [lval_limbs BB2, lval_limbs BB2] at this
theorem plusC (a c : Nat) (ha : (limbs BB a).length ≤ 800000) (hc : c < 10) : Ret P5 126 [vN true (limbs BB a), .lst 1 1 false [.int .i64 (c : Int)]] (vN true (limbs BB (a + c))) := by
  have hBB := BB_eq
  have := plus37 true true _ [c] (limbs_below BB2 a) (fun d hd => by rw [List.mem_singleton.1 hd]; omega) (by omega) (by simp)
  have h2 : lval BB [c] = c := by simp [lval]
  rw [lval_limbs BB2, h2] at this
  exact this
theorem lessN (a b : Nat) (ha : (limbs BB a).length ≤ 800000) (hle : b ≤ a) : Ret P5 128 [vN true (limbs BB a), vN true (limbs BB b)] (vN true (limbs BB (a - b))) := by
  have := less39 true true _ _ (limbs_below BB2 a) (limbs_below BB2 b) (by omega) (limbs_mono hle) (by rw [lval_limbs BB2, lval_limbs BB2]; exact hle)
  rwa [lval_limbs BB2, lval_limbs BB2] at this
theorem compareN (a b : Nat) (ha : (limbs BB a).length ≤ 800000) (hb : (limbs BB b).length ≤ 800000) : Ret P5 127 [vN true (limbs BB a), vN true (limbs BB b)] (.int .i64 (cmpN a b)) := by
  have := compare38 true true _ _ (limbs_below BB2 a) (limbs_below BB2 b) (limbs_last BB2 a) (limbs_last BB2 b) (by omega) (by omega)
  rwa [lval_limbs BB2, lval_limbs BB2] at this
theorem cmpN_ge {a b : Nat} (h : b ≤ a) : cmpN a b ≥ 0 := by unfold cmpN; rw [if_neg (by omega)]; split <;> omega
theorem cmpN_lt {a b : Nat} (h : a < b) : ¬ cmpN a b ≥ 0 := by unfold cmpN; rw [if_pos h]; omega
theorem byte_up {k : Nat} (h : k < 10) : IntKind.u8.wrap (((48 + k : Nat) : Int) + 1) = ((48 + (k + 1) : Nat) : Int) := by
  have : ∀ k : Nat, k < 10 → IntKind.u8.wrap (((48 + k : Nat) : Int) + 1) = ((48 + (k + 1) : Nat) : Int) := by decide
  exact this k h
theorem quo_l0 {n m : Nat} {v b : Nat} {s7 s10 s25 : AV} {q : Bool} {fr : Fr} {H : Heap} {KK : Ex → Fr → Heap → R} {Q : AV → Heap → Prop} (hb : 0 < b) (hv : v / b < 10) (hm : 12 ≤ m)
    (e38 : ∀ k, k < 11 → k * b ≤ v → ∀ H, callN P5 n 127 [vN true (limbs BB (v - k * b)), vN true (limbs BB b)] H = some (.ret (.int .i64 (cmpN (v - k * b) b)), H))
    (e39 : ∀ k, k < 11 → (k + 1) * b ≤ v → ∀ H, callN P5 n 128 [vN true (limbs BB (v - k * b)), vN true (limbs BB b)] H = some (.ret (vN true (limbs BB (v - (k + 1) * b))), H))
    (h7 : fr 7 = s7) (h8 : fr 8 = .ptr (.new 1) 0) (h9 : fr 9 = vN true (limbs BB v)) (h10 : fr 10 = s10) (h14 : fr 14 = .int .u8 (48 : Nat)) (h25 : fr 25 = s25) (g1 : H.t.get 1 = some (.row [.bool q, vN true (limbs BB b)] 0 false (some 204)))
    (hK : ∀ fr : Fr, fr 7 = s7 → fr 8 = .ptr (.new 1) 0 → fr 9 = vN true (limbs BB (v % b)) → fr 10 = s10 → fr 14 = .int .u8 (48 + v / b : Nat) → fr 25 = s25 → Gives (KK (.exit 2) fr H) Q) :
    Gives (loopR (callN P5 n) n c100_l0 m fr H KK) Q := by
  have hle : ∀ k, k ≤ v / b → k * b ≤ v := fun k h => Nat.le_trans (Nat.mul_le_mul_right b h) (Nat.div_mul_le_self v b)
  refine loop_rounds (v / b) (fun k fr H' => H' = H ∧ fr 7 = s7 ∧ fr 8 = .ptr (.new 1) 0 ∧ fr 9 = vN true (limbs BB (v - k * b)) ∧ fr 10 = s10 ∧ fr 14 = .int .u8 (48 + k : Nat) ∧ fr 25 = s25) ?_ ?_ m 0 _ _ (Nat.zero_le _) (by omega) ⟨rfl, h7, h8, by simpa using h9, h10, h14, h25⟩
  · rintro k fr H' K' hi ⟨rfl, h7, h8, h9, h10, h14, h25⟩ hKe hKr hK'
    have e1 := e38 k (by omega) (hle k (by omega))
    have e2 := e39 k (by omega) (hle (k + 1) (by omega))
    have hc : cmpN (v - k * b) b ≥ 0 := cmpN_ge (by have := hle (k + 1) (by omega); rw [Nat.succ_mul] at this; omega)
    have hw := byte_up (k := k) (by omega)
    generalize cmpN (v - k * b) b = c at *
    simp -implicitDefEqProofs only [c100_l0, ↓v_lenS, ZZ, Nat.reduceBEq, reduceIte, Nat.reduceAdd, Nat.reduceLeDiff, Nat.reduceEqDiff, Nat.reduceBneDiff, CL, BS, h8, h9, h14, g1, e1, e2, hc, hw]
    refine hK' _ _ ⟨rfl, ?_, ?_, ?_, ?_, ?_, ?_⟩
    all_goals simp -implicitDefEqProofs only [↓v_lenS, ZZ, Nat.reduceBEq, reduceIte, Nat.reduceAdd, Nat.reduceLeDiff, Nat.reduceEqDiff, Nat.reduceBneDiff, h7, h8, h10, h25]
  · rintro fr H' K' ⟨rfl, h7, h8, h9, h10, h14, h25⟩ hKe hKr
    have e1 := e38 (v / b) (by omega) (hle _ (Nat.le_refl _))
    have hm : v - v / b * b = v % b := by
      have := Nat.div_add_mod v b
      rw [Nat.mul_comm] at this; omega
    rw [hm] at e1 h9
    have hc : ¬ cmpN (v % b) b ≥ 0 := cmpN_lt (Nat.mod_lt _ hb)
    generalize cmpN (v % b) b = c at *
    simp -implicitDefEqProofs only [c100_l0, ↓v_lenS, ZZ, Nat.reduceBEq, reduceIte, Nat.reduceAdd, Nat.reduceLeDiff, Nat.reduceEqDiff, Nat.reduceBneDiff, CL, BS, h8, h9, g1, e1, hc, hKe]
    refine hK _ ?_ ?_ ?_ ?_ ?_ ?_
    all_goals simp -implicitDefEqProofs only [↓v_lenS, ZZ, Nat.reduceBEq, reduceIte, Nat.reduceAdd, Nat.reduceLeDiff, Nat.reduceEqDiff, Nat.reduceBneDiff, h7, h8, h9, h10, h14, h25]
def Sh (v : AV) (l : List Nat) : Prop := (∀ H, shutV v H = some (vN true l, H)) ∧ (∀ d H, shutC d v H = some (vN true l, H)) ∧ v.flat = true
theorem Sh.vN (l : List Nat) : Sh (vN true l) l := ⟨fun H => shutV_vN, fun d H => shutC_vN, fl_vN⟩
theorem Sh.nils : Sh .nils [] := ⟨fun H => rfl, fun d H => by rw [shutC_nils]; rfl, rfl⟩
theorem quo22_zero (x : Int) {k : Nat} (hx : x.natAbs < 10 ^ k) (hk : k ≤ 1000) : Ret P5 100 [.str (decZ x), .str (decZ 0)] (.tuple [.str [], .str [], .bool false]) := by
  have hlz := load30z x hx (by omega)
  have hlz2 := load30z 0 (k := 1) (by decide) (by omega)
  unfold numV at hlz hlz2
  have hz0 : limbs BB (Int.natAbs 0) = [] := limbs_zero BB
  rw [hz0] at hlz2
  refine Ret.of rfl (code100 _ _) rfl rfl (fun H => by simp -implicitDefEqProofs only [↓v_lenS, ZZ, Nat.reduceBEq, reduceIte, Nat.reduceAdd, Nat.reduceLeDiff, Nat.reduceEqDiff, Nat.reduceBneDiff]) ((hlz.and hlz2).mono fun n e H => ?_)
  obtain ⟨e1, e2⟩ := e
  generalize decZ x = sx at *
  generalize decZ 0 = sy at *
  have hz : (((0 : Nat) : Int) == 0) = true := rfl
  simp -implicitDefEqProofs only [c100, ↓v_lenS, ZZ, Nat.reduceBEq, reduceIte, Nat.reduceAdd, Nat.reduceLeDiff, Nat.reduceEqDiff, Nat.reduceBneDiff, CL, BS, vN_nil, e1, e2, hz, Ends, gives_ret]
  exact ⟨_, rfl⟩
theorem byte_more {N n d : Nat} {H : Heap} {s : Str} {v : AV} (acc : Acc N H 5 1 n (bytes s) v) (low : HLow H) (hN : N ≤ H.n) (hb : n ≤ 1000000) :
    ∃ H', appendOf 5 1 1 (H.push (.row [.int .u8 (d : Int)] 0 true none)) v (1, [.int .u8 (d : Int)]) = some (.slice (.new (H.n + 1)) 0 (n + 1) (.gro 1), H') ∧
      Acc N H' 5 1 (n + 1) (bytes (s ++ [d])) (.slice (.new (H.n + 1)) 0 (n + 1) (.gro 1)) ∧ HLow H' ∧ H.n ≤ H'.n ∧
      (∀ j cs fz tt, H.t.get j = some (.row cs 0 fz tt) → H'.t.get j = some (.row cs 0 fz tt)) ∧ (∀ j t p, H.t.get j = some (.iter t p) → H'.t.get j = some (.iter t p)) := by
  obtain ⟨H7, happ, acc7, kp7, low7, hn7⟩ := (acc.push low (ob := .row [.int .u8 (d : Int)] 0 true none)).one_more (e := 5) (bs := 1) (ys := [.int .u8 (d : Int)]) (by simp only [h_n]; omega) low.push (by decide) rfl rfl (by omega)
  simp only [h_n] at happ acc7 hn7
  refine ⟨H7, happ, ?_, low7, by omega, fun j cs fz tt hj => (acc.push low).row (by decide) kp7 (by rw [h_get, if_neg (by have := low j _ hj; omega)]; exact hj), fun j t p hj => ?_⟩
  · rw [bytes_append]; exact acc7
  · refine kp7.get j _ (by rw [h_get, if_neg (by have := low j _ hj; omega)]; exact hj) ?_
    rintro ⟨o, m, c, rfl⟩
    rcases acc with ⟨_, _, h⟩ | ⟨_, _, q, h, _, h4⟩
    · cases h
    · simp only [AV.slice.injEq, Blk.new.injEq] at h
      rw [h.1, h4] at hj
      cases hj
theorem acc_str {N n : Nat} {H : Heap} {s : Str} {v : AV} (acc : Acc N H 5 1 n (bytes s) v) (hn : s.length = n) (h256 : ∀ c ∈ s, c < 256) : strOfBytes H v = some (.str s) := by
  rcases acc with ⟨rfl, h1, rfl⟩ | ⟨_, h2, j, rfl, _, h4⟩
  · obtain rfl := List.eq_nil_of_length_eq_zero hn
    rfl
  · have e1 : (List.drop 0 (bytes s)).take n = bytes s := by rw [List.drop_zero, List.take_of_length_le (by rw [bytes_len]; omega)]
    have e2 : (bytes s).length = n := by rw [bytes_len]; omega
    simp only [strOfBytes, h_ldn, h_cells, h4, k_cells, k_ldn, e1, e2, if_true, Option.bind_some, bytesOf_bytes s h256, Option.map_some]
theorem quo22 (x y : Int) {k : Nat} (hx : x.natAbs < 10 ^ k) (hy : y.natAbs < 10 ^ k) (hk : k ≤ 1000) (hy0 : y ≠ 0) : Ret P5 100 [.str (decZ x), .str (decZ y)] (.tuple [.str (opZ (x.tdiv y)), .str (opZ (x.tmod y)), .bool true]) := by
  have hqv := quo_val x y
  have hrv := rem_val x y
  have hlz := load30z x hx (by omega)
  have hlz2 := load30z y hy (by omega)
  unfold numV at hlz hlz2
  have hx1 : x.natAbs < 10 ^ (k + 1) := Nat.lt_of_lt_of_le hx (Nat.pow_le_pow_right (by omega) (by omega))
  have hcut := trim36 (decZ x) (by have := decZ_len hx1 (by omega); omega)
  rw [cutS_decZ] at hcut
  have ht : Digs (decN x.natAbs) := decN_digs _
  have hva := dval_decN x.natAbs
  have htl := (decN_len_le (n := x.natAbs) (k := k + 1) (by omega)).2 hx1
  have hb0 : 0 < y.natAbs := by omega
  have hly := limbs_small hy (m := 200) (by omega)
  have hpk : (10 : Nat) ^ (k + 1) = 10 ^ k * 10 := Nat.pow_succ ..
  have hsm : ∀ w, w < 10 * y.natAbs → (limbs BB w).length ≤ 200 := fun w hw => limbs_small (k := k + 1) (by omega) (by omega)
  generalize hX : limbs BB x.natAbs = X at *
  generalize hb : y.natAbs = b at *
  generalize x.natAbs = a at *
  generalize hT : decN a = t at *
  have hquo := quoD_val hb0 (t := t) t.length (Nat.le_refl _)
  have hqd := quoD_digs ht hb0 t.length (Nat.le_refl _)
  have hrem : remV t b t.length = a % b := by unfold remV; rw [List.take_length, hva]
  rw [List.take_length, hva] at hquo
  have hneg : negS (quoD t b t.length) = false := by
    cases hq : quoD t b t.length with
    | nil => rfl
    | cons c s =>
      have := hqd c (by rw [hq]; simp)
      simp [negS]; omega
  have hcutq : cutS (quoD t b t.length) = quoD t b t.length := by
    cases hq : quoD t b t.length with
    | nil => rfl
    | cons c s =>
      have := hqd c (by rw [hq]; simp)
      simp [cutS]; omega
  have hld := load30 (quoD t b t.length) (by rw [hcutq]; exact hqd) (by rw [quoD_len]; omega)
  rw [hneg, hcutq, hquo] at hld
  have hdl : (limbs BB (a / b)).length ≤ 300 := by
    have : a / b ≤ a := Nat.div_le_self a b
    exact limbs_small (k := k + 1) (by omega) (by omega)
  have hml : (limbs BB (a % b)).length ≤ 300 := by
    have : a % b < b := Nat.mod_lt _ hb0
    have := hsm (a % b) (by omega)
    omega
  have ht1 := text32 true (!(decide (x < 0) == decide (y < 0))) (a / b) (by omega)
  have ht2 := text32 true (decide (x < 0)) (a % b) (by omega)
  unfold valZ at hqv hrv
  rw [hqv] at ht1
  rw [hrv] at ht2
  unfold opT at ht1 ht2
  have hrl : ∀ i, remV t b i < b := fun i => Nat.mod_lt _ hb0
  have steps : Ev fun n => ∀ i, i < t.length →
      (∀ H, callN P5 n 126 [vN true (limbs BB (remV t b i)), vN true (limbs BB (remV t b i))] H = some (.ret (vN true (limbs BB (remV t b i + remV t b i))), H)) ∧
      (∀ H, callN P5 n 126 [vN true (limbs BB (remV t b i + remV t b i)), vN true (limbs BB (remV t b i + remV t b i))] H = some (.ret (vN true (limbs BB (4 * remV t b i))), H)) ∧
      (∀ H, callN P5 n 126 [vN true (limbs BB (4 * remV t b i)), vN true (limbs BB (4 * remV t b i))] H = some (.ret (vN true (limbs BB (8 * remV t b i))), H)) ∧
      (∀ H, callN P5 n 126 [vN true (limbs BB (8 * remV t b i)), vN true (limbs BB (remV t b i + remV t b i))] H = some (.ret (vN true (limbs BB (10 * remV t b i))), H)) ∧
      (∀ H, callN P5 n 126 [vN true (limbs BB (10 * remV t b i)), .lst 1 1 false [.int .i64 (digV t i : Nat)]] H = some (.ret (vN true (limbs BB (inV t b i))), H)) ∧
      (∀ k, k < 11 → k * b ≤ inV t b i → ∀ H, callN P5 n 127 [vN true (limbs BB (inV t b i - k * b)), vN true (limbs BB b)] H = some (.ret (.int .i64 (cmpN (inV t b i - k * b) b)), H)) ∧
      (∀ k, k < 11 → (k + 1) * b ≤ inV t b i → ∀ H, callN P5 n 128 [vN true (limbs BB (inV t b i - k * b)), vN true (limbs BB b)] H = some (.ret (vN true (limbs BB (inV t b i - (k + 1) * b))), H)) := by
    have key := Ev.all (List.range t.length) (p := fun i n =>
      (∀ H, callN P5 n 126 [vN true (limbs BB (remV t b i)), vN true (limbs BB (remV t b i))] H = some (.ret (vN true (limbs BB (remV t b i + remV t b i))), H)) ∧
      (∀ H, callN P5 n 126 [vN true (limbs BB (remV t b i + remV t b i)), vN true (limbs BB (remV t b i + remV t b i))] H = some (.ret (vN true (limbs BB (4 * remV t b i))), H)) ∧
      (∀ H, callN P5 n 126 [vN true (limbs BB (4 * remV t b i)), vN true (limbs BB (4 * remV t b i))] H = some (.ret (vN true (limbs BB (8 * remV t b i))), H)) ∧
      (∀ H, callN P5 n 126 [vN true (limbs BB (8 * remV t b i)), vN true (limbs BB (remV t b i + remV t b i))] H = some (.ret (vN true (limbs BB (10 * remV t b i))), H)) ∧
      (∀ H, callN P5 n 126 [vN true (limbs BB (10 * remV t b i)), .lst 1 1 false [.int .i64 (digV t i : Nat)]] H = some (.ret (vN true (limbs BB (inV t b i))), H)) ∧
      (∀ k, k < 11 → k * b ≤ inV t b i → ∀ H, callN P5 n 127 [vN true (limbs BB (inV t b i - k * b)), vN true (limbs BB b)] H = some (.ret (.int .i64 (cmpN (inV t b i - k * b) b)), H)) ∧
      (∀ k, k < 11 → (k + 1) * b ≤ inV t b i → ∀ H, callN P5 n 128 [vN true (limbs BB (inV t b i - k * b)), vN true (limbs BB b)] H = some (.ret (vN true (limbs BB (inV t b i - (k + 1) * b))), H))) ?_
    · exact key.mono fun n h i hi => h i (List.mem_range.2 hi)
    · intro i hi
      replace hi := List.mem_range.1 hi
      have hr := hrl i
      have hd := digV_lt ht hi
      have hin := inV_lt ht hb0 hi
      have hinv : inV t b i = 10 * remV t b i + digV t i := rfl
      rw [hinv] at hin ⊢
      generalize remV t b i = r at *
      generalize digV t i = c at *
      have p1 := plusN r r (by have := hsm r (by omega); omega) (by have := hsm r (by omega); omega)
      have p2 := plusN (r + r) (r + r) (by have := hsm (r + r) (by omega); omega) (by have := hsm (r + r) (by omega); omega)
      have p3 := plusN (4 * r) (4 * r) (by have := hsm (4 * r) (by omega); omega) (by have := hsm (4 * r) (by omega); omega)
      have p4 := plusN (8 * r) (r + r) (by have := hsm (8 * r) (by omega); omega) (by have := hsm (r + r) (by omega); omega)
      have p5 := plusC (10 * r) c (by have := hsm (10 * r) (by omega); omega) hd
      rw [show r + r + (r + r) = 4 * r by omega] at p2
      rw [show 4 * r + 4 * r = 8 * r by omega] at p3
      rw [show 8 * r + (r + r) = 10 * r by omega] at p4
      have p6 := Ev.all (List.range 11) fun k _ => compareN (10 * r + c - k * b) b (by have := hsm (10 * r + c - k * b) (by omega); omega) (by omega)
      have p7 := Ev.all (List.range 11) (p := fun k n => (k + 1) * b ≤ 10 * r + c → ∀ H, callN P5 n 128 [vN true (limbs BB (10 * r + c - k * b)), vN true (limbs BB b)] H = some (.ret (vN true (limbs BB (10 * r + c - (k + 1) * b))), H)) fun k _ => by
        have hmul : (k + 1) * b = k * b + b := Nat.succ_mul k b
        rw [hmul]
        by_cases hle : k * b + b ≤ 10 * r + c
        · have := lessN (10 * r + c - k * b) b (by have := hsm (10 * r + c - k * b) (by omega); omega) (by omega)
          rw [show 10 * r + c - k * b - b = 10 * r + c - (k * b + b) by omega] at this
          exact this.mono fun n h _ => h
        · exact Ev.of fun n h => absurd h hle
      exact (p1.and (p2.and (p3.and (p4.and (p5.and (p6.and p7)))))).mono fun n h =>
        ⟨h.1, h.2.1, h.2.2.1, h.2.2.2.1, h.2.2.2.2.1, fun k hk _ => h.2.2.2.2.2.1 k (List.mem_range.2 hk), fun k hk => h.2.2.2.2.2.2 k (List.mem_range.2 hk)⟩
  refine Ret.of rfl (code100 _ _) rfl rfl (fun H => by simp -implicitDefEqProofs only [↓v_lenS, ZZ, Nat.reduceBEq, reduceIte, Nat.reduceAdd, Nat.reduceLeDiff, Nat.reduceEqDiff, Nat.reduceBneDiff]) ?_
  refine (hlz.and (hlz2.and (hcut.and (hld.and (ht1.and (ht2.and (steps.and (Ev.ge (t.length + 20))))))))).mono fun n e H => ?_
  obtain ⟨e1, e2, e3, e4, e5, e6, e7, hge⟩ := e
  generalize decZ x = sx at *
  generalize decZ y = sy at *
  have hYne : (((limbs BB b).length : Int) == 0) = false := by rw [limbs_pos BB2 hb0]; simp; omega
  simp -implicitDefEqProofs only [c100, ↓v_lenS, ZZ, Nat.reduceBEq, reduceIte, Nat.reduceAdd, Nat.reduceLeDiff, Nat.reduceEqDiff, Nat.reduceBneDiff, CL, BS, e1, e2, e3, hYne]
  refine loop_gen (fun e fr H => e = .exit 0 ∧ fr 7 = .ptr (.new 0) 0 ∧ fr 8 = .ptr (.new 1) 0 ∧ Sh (fr 9) (limbs BB (a % b)) ∧ H.t.get 0 = some (.row [.bool (decide (x < 0)), vN true X] 0 false (some 204)) ∧ H.t.get 1 = some (.row [.bool (decide (y < 0)), vN true (limbs BB b)] 0 false (some 204)) ∧ strOfBytes H (fr 10) = some (.str (quoD t b t.length))) ?_ fun KK fin => ?_
  · rintro e fr H ⟨rfl, h7, h8, ⟨hs1, hs2, hs3⟩, g0, g1, hstr⟩
    simp -implicitDefEqProofs only [↓v_lenS, ZZ, Nat.reduceBEq, reduceIte, Nat.reduceAdd, Nat.reduceLeDiff, Nat.reduceEqDiff, Nat.reduceBneDiff, CL, BS, k_blockE, h7, h8, g0, g1, hs2, hs3, hstr, e4, e5, e6, gives_ret]
    exact ⟨_, rfl⟩
  · refine loop_rounds t.length (fun i fr H => fr 7 = .ptr (.new 0) 0 ∧ fr 8 = .ptr (.new 1) 0 ∧ fr 25 = .ptr (.new 2) 0 ∧ Sh (fr 9) (limbs BB (remV t b i)) ∧ H.t.get 0 = some (.row [.bool (decide (x < 0)), vN true X] 0 false (some 204)) ∧ H.t.get 1 = some (.row [.bool (decide (y < 0)), vN true (limbs BB b)] 0 false (some 204)) ∧ H.t.get 2 = some (.iter t i) ∧ HLow H ∧ Acc 3 H 5 1 i (bytes (quoD t b i)) (fr 10)) ?_ ?_ n 0 _ _ (by omega) (by omega) ?_
    · rintro i fr H K' hi ⟨h7, h8, h25, ⟨hs1, hs2, hs3⟩, g0, g1, g2, low, acc⟩ hKe hKr hK
      obtain ⟨s1, s2, s3, s4, s5, s6, s7⟩ := e7 i hi
      have hdg := ht _ (List.mem_of_getElem? (atN_at hi))
      have hde : decodeAt (t.drop i) = (atN t i, 1) := decode_small (by rw [List.getElem?_drop]; exact atN_at hi) (by omega)
      have w1 := i32_digit hdg.1 hdg.2
      have w2 : IntKind.i64.wrap ((digV t i : Nat) : Int) = ((digV t i : Nat) : Int) := by have := digV_lt ht hi; exact wrap64 (by omega) (by omega)
      have hdv : ((atN t i - 48 : Nat) : Int) = ((digV t i : Nat) : Int) := rfl
      rw [hdv] at w1
      have hv10 := inV_div_lt ht hb0 hi
      generalize hv9 : fr 9 = v9 at *
      generalize hv10' : fr 10 = v10 at *
      have low1 : HLow (H.put 2 (.iter t (i + 1))) := low.put (low.lt g2)
      have acc1 : Acc 3 (H.put 2 (.iter t (i + 1))) 5 1 i (bytes (quoD t b i)) v10 := acc.putI g2
      simp -implicitDefEqProofs only [c100_l1, ↓v_lenS, ZZ, Nat.reduceBEq, reduceIte, Nat.reduceAdd, Nat.reduceLeDiff, Nat.reduceEqDiff, Nat.reduceBneDiff, CL, BS, h25, g2, hi, hde, hv9, hs1, s1, s2, s3, s4, s5, w1, w2]
      have hn2 : 2 < H.n := low.lt g2
      have gg : ∀ (j : Nat) (o : Obj), j < 2 → H.t.get j = some o → ((H.put 2 (.iter t (i + 1))).push (.row [.int .i64 (digV t i : Nat)] 0 true none)).t.get j = some o := fun j o hj ho => by
        rw [h_get, if_neg (by rw [h_nput]; omega), h_gput, if_neg (by omega)]; exact ho
      refine quo_l0 (q := decide (y < 0)) (s7 := .ptr (.new 0) 0) (s10 := v10) (s25 := .ptr (.new 2) 0) hb0 hv10 (by omega) s6 s7 ?_ ?_ ?_ ?_ ?_ ?_ (gg _ _ (by omega) g1) ?_
      · exact h7
      · exact h8
      · rfl
      · simp -implicitDefEqProofs only [↓v_lenS, ZZ, Nat.reduceBEq, reduceIte, Nat.reduceAdd, Nat.reduceLeDiff, Nat.reduceEqDiff, Nat.reduceBneDiff, hv10']
      · simp -implicitDefEqProofs only [↓v_lenS, ZZ, Nat.reduceBEq, reduceIte, Nat.reduceAdd, Nat.reduceLeDiff, Nat.reduceEqDiff, Nat.reduceBneDiff]; rfl
      · exact h25
      · intro fr' h7' h8' h9' h10' h14' h25'
        obtain ⟨H7, happ, acc7, low7, hn7, car7, cai7⟩ := byte_more (d := 48 + inV t b i / b) (acc1.push low1 (ob := .row [.int .i64 (digV t i : Nat)] 0 true none)) low1.push (by simp only [h_n, h_nput]; omega) (by omega)
        rw [← remV_succ hi] at h9'
        have g2' := cai7 2 t (i + 1) (by rw [h_get, if_neg (by rw [h_nput]; omega), h_gput, if_pos rfl])
        simp only [h_n, h_nput] at happ acc7
        simp -implicitDefEqProofs only [↓v_lenS, ZZ, Nat.reduceBEq, reduceIte, Nat.reduceAdd, Nat.reduceLeDiff, Nat.reduceEqDiff, Nat.reduceBneDiff, k_blockE, h10', h14', acc.flat, happ]
        refine hK _ _ ⟨?_, ?_, ?_, ?_, car7 _ _ _ _ (gg _ _ (by omega) g0), car7 _ _ _ _ (gg _ _ (by omega) g1), g2', low7, ?_⟩
        · simp -implicitDefEqProofs only [↓v_lenS, ZZ, Nat.reduceBEq, reduceIte, Nat.reduceAdd, Nat.reduceLeDiff, Nat.reduceEqDiff, Nat.reduceBneDiff, h7']
        · simp -implicitDefEqProofs only [↓v_lenS, ZZ, Nat.reduceBEq, reduceIte, Nat.reduceAdd, Nat.reduceLeDiff, Nat.reduceEqDiff, Nat.reduceBneDiff, h8']
        · simp -implicitDefEqProofs only [↓v_lenS, ZZ, Nat.reduceBEq, reduceIte, Nat.reduceAdd, Nat.reduceLeDiff, Nat.reduceEqDiff, Nat.reduceBneDiff, h25']
        · simp -implicitDefEqProofs only [↓v_lenS, ZZ, Nat.reduceBEq, reduceIte, Nat.reduceAdd, Nat.reduceLeDiff, Nat.reduceEqDiff, Nat.reduceBneDiff, h9']; exact Sh.vN _
        · simp -implicitDefEqProofs only [↓v_lenS, ZZ, Nat.reduceBEq, reduceIte, Nat.reduceAdd, Nat.reduceLeDiff, Nat.reduceEqDiff, Nat.reduceBneDiff]; exact acc7
    · rintro fr H K' ⟨h7, h8, h25, hsh, g0, g1, g2, low, acc⟩ hKe hKr
      have hlt : ¬ t.length < t.length := by omega
      rw [hrem] at hsh
      have hstr := acc_str acc (quoD_len _ _ _) (fun c hc => by have := hqd c hc; omega)
      simp -implicitDefEqProofs only [c100_l1, ↓v_lenS, ZZ, Nat.reduceBEq, reduceIte, Nat.reduceAdd, Nat.reduceLeDiff, Nat.reduceEqDiff, Nat.reduceBneDiff, h25, g2, hlt, hKe]
      refine fin _ _ _ ⟨rfl, ?_, ?_, ?_, g0, g1, ?_⟩
      · exact h7
      · exact h8
      · simp -implicitDefEqProofs only [↓v_lenS, ZZ, Nat.reduceBEq, reduceIte, Nat.reduceAdd, Nat.reduceLeDiff, Nat.reduceEqDiff, Nat.reduceBneDiff]; exact hsh
      · simp -implicitDefEqProofs only [↓v_lenS, ZZ, Nat.reduceBEq, reduceIte, Nat.reduceAdd, Nat.reduceLeDiff, Nat.reduceEqDiff, Nat.reduceBneDiff]; exact hstr
    · refine ⟨?_, ?_, ?_, ?_, ?_, ?_, ?_, ?_, ?_⟩
      any_goals simp -implicitDefEqProofs only [↓v_lenS, ZZ, Nat.reduceBEq, reduceIte, Nat.reduceAdd, Nat.reduceLeDiff, Nat.reduceEqDiff, Nat.reduceBneDiff]
      · have : remV t b 0 = 0 := by simp [remV, dval]
        rw [this, limbs_zero]; exact Sh.nils
      · exact ((HLow.bare.push.push.put (by simp [h_n])).put (by simp [h_n, h_nput])).push
      · exact Acc.nil
end Go.Lite

/-
  Numbers' texts: what the laws of Big knew.
-/
namespace Go.Lite
open Go Go.Proofs
theorem z0 : decZ 0 = [48] := by simp [decZ, decN_small]
end Go.Lite
