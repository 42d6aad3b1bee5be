/-
  Data as Lean trees, and as the interpreter's values; seat r1's program as the interpreter takes it.
-/
import Derived.Test.YtibjdfajafilhaaLClone
import Derived.Test.YtibjdfajafilhaaLBld
import Derived.Test.YtibjdfajafilhaaCode
namespace Go.Lite
open Go Go.Proofs
set_option maxRecDepth 100000
set_option linter.unusedSimpArgs false
set_option linter.unusedVariables false

inductive D where
  | mk (kind : Int) (text : List Nat) (marks : List Int) (l : List D) (pos : Int)

mutual
theorem D.indA {P : D → Prop} (h : ∀ k t ms l a, (∀ d ∈ l, P d) → P (.mk k t ms l a)) : ∀ d, P d
  | .mk k t ms l a => h k t ms l a (D.indB h l)
theorem D.indB {P : D → Prop} (h : ∀ k t ms l a, (∀ d ∈ l, P d) → P (.mk k t ms l a)) : ∀ l : List D, ∀ d ∈ l, P d
  | [], d, hd => by cases hd
  | e :: l, d, hd => by
    rcases List.mem_cons.1 hd with h1 | h1
    · rw [h1]; exact D.indA h e
    · exact D.indB h l d h1
end

/-- whole numbers as cells -/
def int1 (n : Int) : List AV := [.int .i64 n]
theorem int1_len (n : Int) : (int1 n).length = 1 := rfl
def vInts (ms : List Int) : AV := vList true 1 int1 ms

mutual
def D.cells : D → List AV
  | .mk k t ms l a => [.int .i64 k, .str t, vInts ms, .L true 5 (D.cellsL l) l.length, .int .i64 a]
def D.cellsL : List D → List AV
  | [] => []
  | d :: ds => d.cells ++ D.cellsL ds
end

theorem D.cellsL_eq (l : List D) : D.cellsL l = l.flatMap D.cells := by
  induction l with
  | nil => rfl
  | cons d l ih => rw [D.cellsL, ih, List.flatMap_cons]

/-- a list of data -/
def vData (l : List D) : AV := vList true 5 D.cells l

theorem D.cells_mk (k : Int) (t : List Nat) (ms : List Int) (l : List D) (a : Int) : (D.mk k t ms l a).cells = [.int .i64 k, .str t, vInts ms, vData l, .int .i64 a] := by
  rw [D.cells, D.cellsL_eq]; rfl

theorem D.cells_len (d : D) : d.cells.length = 5 := by cases d; rw [D.cells_mk]; rfl

/-- a datum -/
def D.v (d : D) : AV := .agg d.cells
theorem D.v_mk (k : Int) (t : List Nat) (ms : List Int) (l : List D) (a : Int) : (D.mk k t ms l a).v = .agg [.int .i64 k, .str t, vInts ms, vData l, .int .i64 a] := by
  rw [D.v, D.cells_mk]

theorem D.still (d : D) : Still d.cells := by
  cases d
  rw [D.cells_mk]
  exact .cons (fun _ _ => shutC_int) (.cons (fun _ _ => shutC_str) (.cons (fun _ _ => shutC_vList) (.cons (fun _ _ => shutC_vList) (.cons (fun _ _ => shutC_int) .nil))))

theorem D.shut {d : D} {H : Heap} : shutV d.v H = some (d.v, H) := by
  rw [D.v, shutV_agg, d.still.map]; rfl
theorem D.shutA {d : D} {H : Heap} : Lite.shutA d.v H = some (d.v, H) := by
  rw [D.v, shutA_agg, d.still.map]; rfl

theorem len_vInts {ms : List Int} : lenM (vInts ms) = some (.int .i64 ms.length) := len_vList
theorem len_vData {l : List D} : lenM (vData l) = some (.int .i64 l.length) := len_vList
theorem shutC_vInts {d : Nat} {ms : List Int} {H : Heap} : shutC d (vInts ms) H = some (vInts ms, H) := shutC_vList
theorem shutC_vData {d : Nat} {l : List D} {H : Heap} : shutC d (vData l) H = some (vData l, H) := shutC_vList
theorem shutV_vInts {ms : List Int} {H : Heap} : shutV (vInts ms) H = some (vInts ms, H) := shutV_vList
theorem shutV_vData {l : List D} {H : Heap} : shutV (vData l) H = some (vData l, H) := shutV_vList
theorem iaddr_vData {l : List D} {j : Nat} {d : D} (h : l[j]? = some d) : iaddrV 5 (vData l) j = some (.ptr (.val d.cells) 0) := iaddr_at D.cells_len h
theorem iaddr_vInts {l : List Int} {j : Nat} {d : Int} (h : l[j]? = some d) : iaddrV 1 (vInts l) j = some (.ptr (.val [.int .i64 d]) 0) := iaddr_at int1_len h
theorem fl_vList {α : Type} {f : Bool} {es : Nat} {g : α → List AV} {l : List α} : (vList f es g l).flat = true := by cases l <;> rfl
theorem fl_vInts {ms : List Int} : (vInts ms).flat = true := fl_vList
theorem fl_vData {l : List D} : (vData l).flat = true := fl_vList

def lies2 (t c o : Nat) : Bool := Nat.beq t 54 && Nat.beq c 2 && Nat.beq o 0
def own2 (f : FuncId) : Option (List AV → Heap → R) := bif Nat.beq f 38 then some (ownCheck lies2) else bif Nat.beq f 32 then some ownString else bif Nat.beq f 33 then some (ownClone 5 80) else none
def mode2 : FuncId → Nat
  | 31 | 37 => 0
  | 16 => 1
  | _ => 2
noncomputable def P2 : Prg := slimPrg Try.prog own2 mode2
theorem cl3 {n : Nat} {caps xs : List AV} {H : Heap} : callV (callN P2 n) (.func 3 caps) xs H = callS P2 n 3 (mapHM shutV (xs ++ caps) H) := callV_s rfl rfl
theorem cl4 {n : Nat} {caps xs : List AV} {H : Heap} : callV (callN P2 n) (.func 4 caps) xs H = callS P2 n 4 (mapHM shutV (xs ++ caps) H) := callV_s rfl rfl
theorem cl5 {n : Nat} {caps xs : List AV} {H : Heap} : callV (callN P2 n) (.func 5 caps) xs H = callS P2 n 5 (mapHM shutV (xs ++ caps) H) := callV_s rfl rfl
theorem cl6 {n : Nat} {caps xs : List AV} {H : Heap} : callV (callN P2 n) (.func 6 caps) xs H = callS P2 n 6 (mapHM shutV (xs ++ caps) H) := callV_s rfl rfl
theorem cl7 {n : Nat} {caps xs : List AV} {H : Heap} : callV (callN P2 n) (.func 7 caps) xs H = callS P2 n 7 (mapHM shutV (xs ++ caps) H) := callV_s rfl rfl
theorem cl8 {n : Nat} {caps xs : List AV} {H : Heap} : callV (callN P2 n) (.func 8 caps) xs H = callS P2 n 8 (mapHM shutV (xs ++ caps) H) := callV_s rfl rfl
theorem cl9 {n : Nat} {caps xs : List AV} {H : Heap} : callV (callN P2 n) (.func 9 caps) xs H = callS P2 n 9 (mapHM shutV (xs ++ caps) H) := callV_s rfl rfl
theorem cl10 {n : Nat} {caps xs : List AV} {H : Heap} : callV (callN P2 n) (.func 10 caps) xs H = callS P2 n 10 (mapHM shutV (xs ++ caps) H) := callV_s rfl rfl
theorem cl11 {n : Nat} {caps xs : List AV} {H : Heap} : callV (callN P2 n) (.func 11 caps) xs H = callS P2 n 11 (mapHM shutV (xs ++ caps) H) := callV_s rfl rfl
theorem cl12 {n : Nat} {caps xs : List AV} {H : Heap} : callV (callN P2 n) (.func 12 caps) xs H = callS P2 n 12 (mapHM shutV (xs ++ caps) H) := callV_s rfl rfl
theorem cl13 {n : Nat} {caps xs : List AV} {H : Heap} : callV (callN P2 n) (.func 13 caps) xs H = callS P2 n 13 (mapHM shutV (xs ++ caps) H) := callV_s rfl rfl
theorem cl14 {n : Nat} {caps xs : List AV} {H : Heap} : callV (callN P2 n) (.func 14 caps) xs H = callS P2 n 14 (mapHM shutV (xs ++ caps) H) := callV_s rfl rfl
theorem cl15 {n : Nat} {caps xs : List AV} {H : Heap} : callV (callN P2 n) (.func 15 caps) xs H = callS P2 n 15 (mapHM shutV (xs ++ caps) H) := callV_s rfl rfl
theorem cl16 {n : Nat} {caps xs : List AV} {H : Heap} : callV (callN P2 n) (.func 16 caps) xs H = call1S P2 n 16 (mapHM softV (xs ++ caps) H) := callV_1 rfl rfl
theorem cl17 {n : Nat} {caps xs : List AV} {H : Heap} : callV (callN P2 n) (.func 17 caps) xs H = callS P2 n 17 (mapHM shutV (xs ++ caps) H) := callV_s rfl rfl
theorem cl18 {n : Nat} {caps xs : List AV} {H : Heap} : callV (callN P2 n) (.func 18 caps) xs H = callS P2 n 18 (mapHM shutV (xs ++ caps) H) := callV_s rfl rfl
theorem cl19 {n : Nat} {caps xs : List AV} {H : Heap} : callV (callN P2 n) (.func 19 caps) xs H = callS P2 n 19 (mapHM shutV (xs ++ caps) H) := callV_s rfl rfl
theorem cl20 {n : Nat} {caps xs : List AV} {H : Heap} : callV (callN P2 n) (.func 20 caps) xs H = callS P2 n 20 (mapHM shutV (xs ++ caps) H) := callV_s rfl rfl
theorem cl21 {n : Nat} {caps xs : List AV} {H : Heap} : callV (callN P2 n) (.func 21 caps) xs H = callS P2 n 21 (mapHM shutV (xs ++ caps) H) := callV_s rfl rfl
theorem cl22 {n : Nat} {caps xs : List AV} {H : Heap} : callV (callN P2 n) (.func 22 caps) xs H = callS P2 n 22 (mapHM shutV (xs ++ caps) H) := callV_s rfl rfl
theorem cl23 {n : Nat} {caps xs : List AV} {H : Heap} : callV (callN P2 n) (.func 23 caps) xs H = callS P2 n 23 (mapHM shutV (xs ++ caps) H) := callV_s rfl rfl
theorem cl24 {n : Nat} {caps xs : List AV} {H : Heap} : callV (callN P2 n) (.func 24 caps) xs H = callS P2 n 24 (mapHM shutV (xs ++ caps) H) := callV_s rfl rfl
theorem cl25 {n : Nat} {caps xs : List AV} {H : Heap} : callV (callN P2 n) (.func 25 caps) xs H = callS P2 n 25 (mapHM shutV (xs ++ caps) H) := callV_s rfl rfl
theorem cl26 {n : Nat} {caps xs : List AV} {H : Heap} : callV (callN P2 n) (.func 26 caps) xs H = callS P2 n 26 (mapHM shutV (xs ++ caps) H) := callV_s rfl rfl
theorem cl27 {n : Nat} {caps xs : List AV} {H : Heap} : callV (callN P2 n) (.func 27 caps) xs H = callS P2 n 27 (mapHM shutV (xs ++ caps) H) := callV_s rfl rfl
theorem cl28 {n : Nat} {caps xs : List AV} {H : Heap} : callV (callN P2 n) (.func 28 caps) xs H = callS P2 n 28 (mapHM shutV (xs ++ caps) H) := callV_s rfl rfl
theorem cl29 {n : Nat} {caps xs : List AV} {H : Heap} : callV (callN P2 n) (.func 29 caps) xs H = callS P2 n 29 (mapHM shutV (xs ++ caps) H) := callV_s rfl rfl
theorem cl30 {n : Nat} {caps xs : List AV} {H : Heap} : callV (callN P2 n) (.func 30 caps) xs H = callS P2 n 30 (mapHM shutV (xs ++ caps) H) := callV_s rfl rfl
theorem cl31 {n : Nat} {caps xs : List AV} {H : Heap} : callV (callN P2 n) (.func 31 caps) xs H = callN P2 n 31 (xs ++ caps) H := rfl
theorem cl32 {n : Nat} {caps xs : List AV} {H : Heap} : callV (callN P2 n) (.func 32 caps) xs H = callN P2 n 32 (xs ++ caps) H := rfl
theorem cl33 {n : Nat} {caps xs : List AV} {H : Heap} : callV (callN P2 n) (.func 33 caps) xs H = callN P2 n 33 (xs ++ caps) H := rfl
theorem cl34 {n : Nat} {caps xs : List AV} {H : Heap} : callV (callN P2 n) (.func 34 caps) xs H = callS P2 n 34 (mapHM shutV (xs ++ caps) H) := callV_s rfl rfl
theorem cl35 {n : Nat} {caps xs : List AV} {H : Heap} : callV (callN P2 n) (.func 35 caps) xs H = callS P2 n 35 (mapHM shutV (xs ++ caps) H) := callV_s rfl rfl
theorem cl36 {n : Nat} {caps xs : List AV} {H : Heap} : callV (callN P2 n) (.func 36 caps) xs H = callS P2 n 36 (mapHM shutV (xs ++ caps) H) := callV_s rfl rfl
theorem cl37 {n : Nat} {caps xs : List AV} {H : Heap} : callV (callN P2 n) (.func 37 caps) xs H = callN P2 n 37 (xs ++ caps) H := rfl
theorem cl38 {n : Nat} {caps xs : List AV} {H : Heap} : callV (callN P2 n) (.func 38 caps) xs H = callN P2 n 38 (xs ++ caps) H := rfl

/-- a number brought to 0 .. n - 1, as the program does it -/
def within (a n : Int) : Int := if a.tmod n < 0 then IntKind.i64.wrap (a.tmod n + n) else a.tmod n

theorem run20 (a b : Int) (hb : b ≠ 0) : Ret P2 20 [.int .i64 a, .int .i64 b] (.int .i64 (within a b)) := by
  refine Ret.of rfl (code20 _ _) rfl rfl (fun H => by simp -implicitDefEqProofs only [↓v_lenS, k_len1, k_len2, k_len3, s_nil, s_p, s_a, s_w, s_c, s_pa, s_g, k_p, k_a, k_w, k_c, k_cp, k_gt, k_gf, s_skip, s_ops, s_draw, s_seq, s_cond, s_block, s_loop, s_exit, s_ret, k_seqN, k_seqE, k_seqR, k_blockN, k_blockR, k_blockE, k_condT, k_condF, k_loopN, k_loopE, k_loopR, s_phs, s_phs0, s_ck, k_ck, fr_put, fr_put0, fr_get, ev_tmp, ev_lit, init_get, fin_ret, fin_norm, POp.val, AOp.val, WOp.val, Lite.bin, intBin, strBin, eqv, eqMany, eq1, AV.asBool, AV.asInt, AV.asNat, AV.asPtr, AV.asStr, cl_agg, cl_flat, resVals, ResV.val, oneOr, wants, skipped, fillAt, putAt, capOf, optNat, bnd, cond_true, cond_false, Nat.reduceBEq, reduceIte, Option.bind_some, Option.bind_none, Option.map_some, Option.map_none, List.map_cons, List.map_nil, List.append_nil, List.nil_append, List.cons_append, List.getElem?_cons_zero, List.getElem?_cons_succ, List.getElem?_nil, Option.getD_some, Option.getD_none, decide_true, decide_false, List.length_cons, List.length_nil, List.take_succ_cons, List.take_zero, List.take_nil, List.drop_succ_cons, List.drop_zero, List.drop_nil, h_n, h_nput, h_ndel, h_get, h_gput, h_gdel, h_base, h_bput, h_bdel, h_cells, h_cellsO, h_ld1, h_ldn, k_ldn, h_st, k_st, k_cells, List.all_cons, List.all_nil, fl_bool, fl_int, fl_str, fl_nilp, fl_ptr, fl_nils, fl_slice, fl_emp, fl_func, fl_nilf, fl_iface, fl_nili, Bool.and_true, Bool.true_and, Bool.and_false, Bool.false_and, and_true, true_and, and_self, Nat.zero_add, Nat.add_zero, Nat.reduceAdd, Nat.reduceLeDiff, Nat.reduceEqDiff, Nat.reduceSub, Nat.reduceMul, Nat.le_refl, Nat.add_eq_left, Nat.left_eq_add, Nat.add_left_cancel_iff, List.isEmpty_nil, SOper.again, same, sameBlk, sameCap, b_ft, b_tf, b_tt, b_ff, Bool.not_true, Bool.not_false, beq_self_eq_true, BEq.rfl, decide_eq_true_eq, ne_eq, not_false_eq_true, not_true_eq_false, Int.natCast_nonneg, Int.toNat_natCast, k_taken, Nat.one_mul, n_lt0_2, n_gt0_2, n_lt0_3, n_gt0_3, n_lt0_4, n_gt0_4, n_lt0_5, n_gt0_5, n_lt0_6, n_gt0_6, h_cellsV, h_nbare, h_gbare, h_bbare, k_len4, len_vList, taken_vList, shutC_vList, shutC_int, shutC_str, shutC_bool, shutC_nils, shutC_lst, shutC_lst0, shutC_func, shutV_agg, shutV_tuple, shutA_agg, shutV_int, shutV_str, shutV_bool, shutV_vList, shutV_nils, shutV_func, shutV_slice, shutA_int, shutA_str, shutA_bool, shutA_vList, shutA_slice, shutA_nils, mapHM_nil, mapHM_cons, same_refl, k_callS, Nat.reduceBneDiff, Bool.or_false, Bool.false_or, Bool.or_true, Bool.true_or, k_call1S, softV_int, softV_str, softV_bool, softV_ptr, softV_nilp, softV_nils, softV_vList, softV_agg, k_softM, k_softM0]) (Ev.of fun n H => ?_)
  unfold within
  by_cases h : a.tmod b < 0
  all_goals simp -implicitDefEqProofs only [c20, ↓v_lenS, k_len1, k_len2, k_len3, s_nil, s_p, s_a, s_w, s_c, s_pa, s_g, k_p, k_a, k_w, k_c, k_cp, k_gt, k_gf, s_skip, s_ops, s_draw, s_seq, s_cond, s_block, s_loop, s_exit, s_ret, k_seqN, k_seqE, k_seqR, k_blockN, k_blockR, k_blockE, k_condT, k_condF, k_loopN, k_loopE, k_loopR, s_phs, s_phs0, s_ck, k_ck, fr_put, fr_put0, fr_get, ev_tmp, ev_lit, init_get, fin_ret, fin_norm, POp.val, AOp.val, WOp.val, Lite.bin, intBin, strBin, eqv, eqMany, eq1, AV.asBool, AV.asInt, AV.asNat, AV.asPtr, AV.asStr, cl_agg, cl_flat, resVals, ResV.val, oneOr, wants, skipped, fillAt, putAt, capOf, optNat, bnd, cond_true, cond_false, Nat.reduceBEq, reduceIte, Option.bind_some, Option.bind_none, Option.map_some, Option.map_none, List.map_cons, List.map_nil, List.append_nil, List.nil_append, List.cons_append, List.getElem?_cons_zero, List.getElem?_cons_succ, List.getElem?_nil, Option.getD_some, Option.getD_none, decide_true, decide_false, List.length_cons, List.length_nil, List.take_succ_cons, List.take_zero, List.take_nil, List.drop_succ_cons, List.drop_zero, List.drop_nil, h_n, h_nput, h_ndel, h_get, h_gput, h_gdel, h_base, h_bput, h_bdel, h_cells, h_cellsO, h_ld1, h_ldn, k_ldn, h_st, k_st, k_cells, List.all_cons, List.all_nil, fl_bool, fl_int, fl_str, fl_nilp, fl_ptr, fl_nils, fl_slice, fl_emp, fl_func, fl_nilf, fl_iface, fl_nili, Bool.and_true, Bool.true_and, Bool.and_false, Bool.false_and, and_true, true_and, and_self, Nat.zero_add, Nat.add_zero, Nat.reduceAdd, Nat.reduceLeDiff, Nat.reduceEqDiff, Nat.reduceSub, Nat.reduceMul, Nat.le_refl, Nat.add_eq_left, Nat.left_eq_add, Nat.add_left_cancel_iff, List.isEmpty_nil, SOper.again, same, sameBlk, sameCap, b_ft, b_tf, b_tt, b_ff, Bool.not_true, Bool.not_false, beq_self_eq_true, BEq.rfl, decide_eq_true_eq, ne_eq, not_false_eq_true, not_true_eq_false, Int.natCast_nonneg, Int.toNat_natCast, k_taken, Nat.one_mul, n_lt0_2, n_gt0_2, n_lt0_3, n_gt0_3, n_lt0_4, n_gt0_4, n_lt0_5, n_gt0_5, n_lt0_6, n_gt0_6, h_cellsV, h_nbare, h_gbare, h_bbare, k_len4, len_vList, taken_vList, shutC_vList, shutC_int, shutC_str, shutC_bool, shutC_nils, shutC_lst, shutC_lst0, shutC_func, shutV_agg, shutV_tuple, shutA_agg, shutV_int, shutV_str, shutV_bool, shutV_vList, shutV_nils, shutV_func, shutV_slice, shutA_int, shutA_str, shutA_bool, shutA_vList, shutA_slice, shutA_nils, mapHM_nil, mapHM_cons, same_refl, k_callS, Nat.reduceBneDiff, Bool.or_false, Bool.false_or, Bool.or_true, Bool.true_or, k_call1S, softV_int, softV_str, softV_bool, softV_ptr, softV_nilp, softV_nils, softV_vList, softV_agg, k_softM, k_softM0, if_neg, if_pos, hb, h, Ends, gives_ret]
  all_goals exact ⟨_, rfl⟩

/-! ### Sizes -/

mutual
/-- how many -/
def D.size : D → Nat
  | .mk _ _ _ l _ => 1 + D.sizes l
def D.sizes : List D → Nat
  | [] => 0
  | d :: ds => d.size + D.sizes ds
end

theorem D.sizes_append (a b : List D) : D.sizes (a ++ b) = D.sizes a + D.sizes b := by
  induction a with
  | nil => simp [D.sizes]
  | cons e l ih => simp only [List.cons_append, D.sizes, ih]; omega

theorem D.sizes_take {l : List D} {i : Nat} {d : D} (h : l[i]? = some d) : D.sizes (l.take (i + 1)) = D.sizes (l.take i) + d.size := by
  rw [List.take_add_one, h, Option.toList_some, D.sizes_append]
  simp [D.sizes]

theorem D.sizes_take_le (l : List D) (i : Nat) : D.sizes (l.take i) ≤ D.sizes l := by
  conv => rhs; rw [← List.take_append_drop i l, D.sizes_append]
  omega

theorem D.len_le_sizes (l : List D) : l.length ≤ D.sizes l := by
  induction l with
  | nil => simp
  | cons e l ih => cases e; simp only [D.sizes, D.size, List.length_cons]; omega

theorem size15 : ∀ d : D, d.size ≤ 1099511627776 → Ret P2 15 [d.v] (.int .i64 d.size) := D.indA fun k t ms l a ih hsz => by
  rw [D.size] at hsz ⊢
  have hl := D.len_le_sizes l
  have hm : ∀ d ∈ l, d.size ≤ D.sizes l := fun d hd => by
    obtain ⟨i, hi, rfl⟩ := List.getElem_of_mem hd
    have h1 := D.sizes_take (List.getElem?_eq_getElem hi)
    have h2 := D.sizes_take_le l (i + 1)
    omega
  refine Ret.of rfl (code15 _ _) rfl rfl (fun H => by simp -implicitDefEqProofs only [mapHM_nil, mapHM_cons, D.shut, Option.bind_some, Option.map_some]) ?_
  refine ((Ev.all l fun d hd => ih d hd (by have := hm d hd; omega)).and (Ev.ge (l.length + 1))).mono fun n hn H => ?_
  obtain ⟨ihn, hge⟩ := hn
  simp -implicitDefEqProofs only [c15, D.v_mk, ↓v_lenS, k_len1, k_len2, k_len3, s_nil, s_p, s_a, s_w, s_c, s_pa, s_g, k_p, k_a, k_w, k_c, k_cp, k_gt, k_gf, s_skip, s_ops, s_draw, s_seq, s_cond, s_block, s_loop, s_exit, s_ret, k_seqN, k_seqE, k_seqR, k_blockN, k_blockR, k_blockE, k_condT, k_condF, k_loopN, k_loopE, k_loopR, s_phs, s_phs0, s_ck, k_ck, fr_put, fr_put0, fr_get, ev_tmp, ev_lit, init_get, fin_ret, fin_norm, POp.val, AOp.val, WOp.val, Lite.bin, intBin, strBin, eqv, eqMany, eq1, AV.asBool, AV.asInt, AV.asNat, AV.asPtr, AV.asStr, cl_agg, cl_flat, resVals, ResV.val, oneOr, wants, skipped, fillAt, putAt, capOf, optNat, bnd, cond_true, cond_false, Nat.reduceBEq, reduceIte, Option.bind_some, Option.bind_none, Option.map_some, Option.map_none, List.map_cons, List.map_nil, List.append_nil, List.nil_append, List.cons_append, List.getElem?_cons_zero, List.getElem?_cons_succ, List.getElem?_nil, Option.getD_some, Option.getD_none, decide_true, decide_false, List.length_cons, List.length_nil, List.take_succ_cons, List.take_zero, List.take_nil, List.drop_succ_cons, List.drop_zero, List.drop_nil, h_n, h_nput, h_ndel, h_get, h_gput, h_gdel, h_base, h_bput, h_bdel, h_cells, h_cellsO, h_ld1, h_ldn, k_ldn, h_st, k_st, k_cells, List.all_cons, List.all_nil, fl_bool, fl_int, fl_str, fl_nilp, fl_ptr, fl_nils, fl_slice, fl_emp, fl_func, fl_nilf, fl_iface, fl_nili, Bool.and_true, Bool.true_and, Bool.and_false, Bool.false_and, and_true, true_and, and_self, Nat.zero_add, Nat.add_zero, Nat.reduceAdd, Nat.reduceLeDiff, Nat.reduceEqDiff, Nat.reduceSub, Nat.reduceMul, Nat.le_refl, Nat.add_eq_left, Nat.left_eq_add, Nat.add_left_cancel_iff, List.isEmpty_nil, SOper.again, same, sameBlk, sameCap, b_ft, b_tf, b_tt, b_ff, Bool.not_true, Bool.not_false, beq_self_eq_true, BEq.rfl, decide_eq_true_eq, ne_eq, not_false_eq_true, not_true_eq_false, Int.natCast_nonneg, Int.toNat_natCast, k_taken, Nat.one_mul, n_lt0_2, n_gt0_2, n_lt0_3, n_gt0_3, n_lt0_4, n_gt0_4, n_lt0_5, n_gt0_5, n_lt0_6, n_gt0_6, h_cellsV, h_nbare, h_gbare, h_bbare, k_len4, len_vList, taken_vList, shutC_vList, shutC_int, shutC_str, shutC_bool, shutC_nils, shutC_lst, shutC_lst0, shutC_func, shutV_agg, shutV_tuple, shutA_agg, shutV_int, shutV_str, shutV_bool, shutV_vList, shutV_nils, shutV_func, shutV_slice, shutA_int, shutA_str, shutA_bool, shutA_vList, shutA_slice, shutA_nils, mapHM_nil, mapHM_cons, same_refl, k_callS, Nat.reduceBneDiff, Bool.or_false, Bool.false_or, Bool.or_true, Bool.true_or, k_call1S, softV_int, softV_str, softV_bool, softV_ptr, softV_nilp, softV_nils, softV_vList, softV_agg, k_softM, k_softM0, fl_vInts, fl_vData, len_vData]
  refine loop_rounds l.length (fun i fr H => fr 7 = vData l ∧ fr 8 = .int .i64 l.length ∧ fr 9 = .int .i64 i ∧ fr 3 = .int .i64 (1 + D.sizes (l.take i) : Nat)) ?_ ?_ n 0 _ _ (by omega) (by omega) ?_
  · rintro i fr H K' hi ⟨h7, h8, h9, h3⟩ hKe hKr hK
    obtain ⟨d, hd⟩ : ∃ d, l[i]? = some d := ⟨l[i], List.getElem?_eq_getElem hi⟩
    have e1 := ihn d (List.mem_of_getElem? hd)
    have hlt : (i : Int) < (l.length : Int) := by omega
    have hw := wrap_succ hi (by omega)
    have hs := D.sizes_take hd
    have hw2 : IntKind.i64.wrap (((1 + D.sizes (l.take i) : Nat) : Int) + (d.size : Int)) = ((1 + D.sizes (l.take (i + 1)) : Nat) : Int) := by
      have := D.sizes_take_le l (i + 1)
      rw [wrap_nat (by omega)]
      congr 1; omega
    obtain ⟨kd, td, md, ld, ad⟩ := d
    rw [D.v_mk] at e1
    simp -implicitDefEqProofs only [c15_l0, ↓v_lenS, k_len1, k_len2, k_len3, s_nil, s_p, s_a, s_w, s_c, s_pa, s_g, k_p, k_a, k_w, k_c, k_cp, k_gt, k_gf, s_skip, s_ops, s_draw, s_seq, s_cond, s_block, s_loop, s_exit, s_ret, k_seqN, k_seqE, k_seqR, k_blockN, k_blockR, k_blockE, k_condT, k_condF, k_loopN, k_loopE, k_loopR, s_phs, s_phs0, s_ck, k_ck, fr_put, fr_put0, fr_get, ev_tmp, ev_lit, init_get, fin_ret, fin_norm, POp.val, AOp.val, WOp.val, Lite.bin, intBin, strBin, eqv, eqMany, eq1, AV.asBool, AV.asInt, AV.asNat, AV.asPtr, AV.asStr, cl_agg, cl_flat, resVals, ResV.val, oneOr, wants, skipped, fillAt, putAt, capOf, optNat, bnd, cond_true, cond_false, Nat.reduceBEq, reduceIte, Option.bind_some, Option.bind_none, Option.map_some, Option.map_none, List.map_cons, List.map_nil, List.append_nil, List.nil_append, List.cons_append, List.getElem?_cons_zero, List.getElem?_cons_succ, List.getElem?_nil, Option.getD_some, Option.getD_none, decide_true, decide_false, List.length_cons, List.length_nil, List.take_succ_cons, List.take_zero, List.take_nil, List.drop_succ_cons, List.drop_zero, List.drop_nil, h_n, h_nput, h_ndel, h_get, h_gput, h_gdel, h_base, h_bput, h_bdel, h_cells, h_cellsO, h_ld1, h_ldn, k_ldn, h_st, k_st, k_cells, List.all_cons, List.all_nil, fl_bool, fl_int, fl_str, fl_nilp, fl_ptr, fl_nils, fl_slice, fl_emp, fl_func, fl_nilf, fl_iface, fl_nili, Bool.and_true, Bool.true_and, Bool.and_false, Bool.false_and, and_true, true_and, and_self, Nat.zero_add, Nat.add_zero, Nat.reduceAdd, Nat.reduceLeDiff, Nat.reduceEqDiff, Nat.reduceSub, Nat.reduceMul, Nat.le_refl, Nat.add_eq_left, Nat.left_eq_add, Nat.add_left_cancel_iff, List.isEmpty_nil, SOper.again, same, sameBlk, sameCap, b_ft, b_tf, b_tt, b_ff, Bool.not_true, Bool.not_false, beq_self_eq_true, BEq.rfl, decide_eq_true_eq, ne_eq, not_false_eq_true, not_true_eq_false, Int.natCast_nonneg, Int.toNat_natCast, k_taken, Nat.one_mul, n_lt0_2, n_gt0_2, n_lt0_3, n_gt0_3, n_lt0_4, n_gt0_4, n_lt0_5, n_gt0_5, n_lt0_6, n_gt0_6, h_cellsV, h_nbare, h_gbare, h_bbare, k_len4, len_vList, taken_vList, shutC_vList, shutC_int, shutC_str, shutC_bool, shutC_nils, shutC_lst, shutC_lst0, shutC_func, shutV_agg, shutV_tuple, shutA_agg, shutV_int, shutV_str, shutV_bool, shutV_vList, shutV_nils, shutV_func, shutV_slice, shutA_int, shutA_str, shutA_bool, shutA_vList, shutA_slice, shutA_nils, mapHM_nil, mapHM_cons, same_refl, k_callS, Nat.reduceBneDiff, Bool.or_false, Bool.false_or, Bool.or_true, Bool.true_or, k_call1S, softV_int, softV_str, softV_bool, softV_ptr, softV_nilp, softV_nils, softV_vList, softV_agg, k_softM, k_softM0, h7, h8, h9, h3, hlt, iaddr_vData hd, D.v_mk, D.cells_mk, D.shut, D.shutA, fl_vInts, fl_vData, len_vInts, len_vData, shutC_vInts, shutC_vData, shutV_vInts, shutV_vData, cl3, cl4, cl5, cl6, cl7, cl8, cl9, cl10, cl11, cl12, cl13, cl14, cl15, cl16, cl17, cl18, cl19, cl20, cl21, cl22, cl23, cl24, cl25, cl26, cl27, cl28, cl29, cl30, cl31, cl32, cl33, cl34, cl35, cl36, cl37, cl38, e1, hw, hw2]
    refine hK _ _ ?_
    simp -implicitDefEqProofs only [↓v_lenS, k_len1, k_len2, k_len3, s_nil, s_p, s_a, s_w, s_c, s_pa, s_g, k_p, k_a, k_w, k_c, k_cp, k_gt, k_gf, s_skip, s_ops, s_draw, s_seq, s_cond, s_block, s_loop, s_exit, s_ret, k_seqN, k_seqE, k_seqR, k_blockN, k_blockR, k_blockE, k_condT, k_condF, k_loopN, k_loopE, k_loopR, s_phs, s_phs0, s_ck, k_ck, fr_put, fr_put0, fr_get, ev_tmp, ev_lit, init_get, fin_ret, fin_norm, POp.val, AOp.val, WOp.val, Lite.bin, intBin, strBin, eqv, eqMany, eq1, AV.asBool, AV.asInt, AV.asNat, AV.asPtr, AV.asStr, cl_agg, cl_flat, resVals, ResV.val, oneOr, wants, skipped, fillAt, putAt, capOf, optNat, bnd, cond_true, cond_false, Nat.reduceBEq, reduceIte, Option.bind_some, Option.bind_none, Option.map_some, Option.map_none, List.map_cons, List.map_nil, List.append_nil, List.nil_append, List.cons_append, List.getElem?_cons_zero, List.getElem?_cons_succ, List.getElem?_nil, Option.getD_some, Option.getD_none, decide_true, decide_false, List.length_cons, List.length_nil, List.take_succ_cons, List.take_zero, List.take_nil, List.drop_succ_cons, List.drop_zero, List.drop_nil, h_n, h_nput, h_ndel, h_get, h_gput, h_gdel, h_base, h_bput, h_bdel, h_cells, h_cellsO, h_ld1, h_ldn, k_ldn, h_st, k_st, k_cells, List.all_cons, List.all_nil, fl_bool, fl_int, fl_str, fl_nilp, fl_ptr, fl_nils, fl_slice, fl_emp, fl_func, fl_nilf, fl_iface, fl_nili, Bool.and_true, Bool.true_and, Bool.and_false, Bool.false_and, and_true, true_and, and_self, Nat.zero_add, Nat.add_zero, Nat.reduceAdd, Nat.reduceLeDiff, Nat.reduceEqDiff, Nat.reduceSub, Nat.reduceMul, Nat.le_refl, Nat.add_eq_left, Nat.left_eq_add, Nat.add_left_cancel_iff, List.isEmpty_nil, SOper.again, same, sameBlk, sameCap, b_ft, b_tf, b_tt, b_ff, Bool.not_true, Bool.not_false, beq_self_eq_true, BEq.rfl, decide_eq_true_eq, ne_eq, not_false_eq_true, not_true_eq_false, Int.natCast_nonneg, Int.toNat_natCast, k_taken, Nat.one_mul, n_lt0_2, n_gt0_2, n_lt0_3, n_gt0_3, n_lt0_4, n_gt0_4, n_lt0_5, n_gt0_5, n_lt0_6, n_gt0_6, h_cellsV, h_nbare, h_gbare, h_bbare, k_len4, len_vList, taken_vList, shutC_vList, shutC_int, shutC_str, shutC_bool, shutC_nils, shutC_lst, shutC_lst0, shutC_func, shutV_agg, shutV_tuple, shutA_agg, shutV_int, shutV_str, shutV_bool, shutV_vList, shutV_nils, shutV_func, shutV_slice, shutA_int, shutA_str, shutA_bool, shutA_vList, shutA_slice, shutA_nils, mapHM_nil, mapHM_cons, same_refl, k_callS, Nat.reduceBneDiff, Bool.or_false, Bool.false_or, Bool.or_true, Bool.true_or, k_call1S, softV_int, softV_str, softV_bool, softV_ptr, softV_nilp, softV_nils, softV_vList, softV_agg, k_softM, k_softM0, h7, h8]
  · rintro fr H K' ⟨h7, h8, h9, h3⟩ hKe hKr
    simp -implicitDefEqProofs only [c15_l0, ↓v_lenS, k_len1, k_len2, k_len3, s_nil, s_p, s_a, s_w, s_c, s_pa, s_g, k_p, k_a, k_w, k_c, k_cp, k_gt, k_gf, s_skip, s_ops, s_draw, s_seq, s_cond, s_block, s_loop, s_exit, s_ret, k_seqN, k_seqE, k_seqR, k_blockN, k_blockR, k_blockE, k_condT, k_condF, k_loopN, k_loopE, k_loopR, s_phs, s_phs0, s_ck, k_ck, fr_put, fr_put0, fr_get, ev_tmp, ev_lit, init_get, fin_ret, fin_norm, POp.val, AOp.val, WOp.val, Lite.bin, intBin, strBin, eqv, eqMany, eq1, AV.asBool, AV.asInt, AV.asNat, AV.asPtr, AV.asStr, cl_agg, cl_flat, resVals, ResV.val, oneOr, wants, skipped, fillAt, putAt, capOf, optNat, bnd, cond_true, cond_false, Nat.reduceBEq, reduceIte, Option.bind_some, Option.bind_none, Option.map_some, Option.map_none, List.map_cons, List.map_nil, List.append_nil, List.nil_append, List.cons_append, List.getElem?_cons_zero, List.getElem?_cons_succ, List.getElem?_nil, Option.getD_some, Option.getD_none, decide_true, decide_false, List.length_cons, List.length_nil, List.take_succ_cons, List.take_zero, List.take_nil, List.drop_succ_cons, List.drop_zero, List.drop_nil, h_n, h_nput, h_ndel, h_get, h_gput, h_gdel, h_base, h_bput, h_bdel, h_cells, h_cellsO, h_ld1, h_ldn, k_ldn, h_st, k_st, k_cells, List.all_cons, List.all_nil, fl_bool, fl_int, fl_str, fl_nilp, fl_ptr, fl_nils, fl_slice, fl_emp, fl_func, fl_nilf, fl_iface, fl_nili, Bool.and_true, Bool.true_and, Bool.and_false, Bool.false_and, and_true, true_and, and_self, Nat.zero_add, Nat.add_zero, Nat.reduceAdd, Nat.reduceLeDiff, Nat.reduceEqDiff, Nat.reduceSub, Nat.reduceMul, Nat.le_refl, Nat.add_eq_left, Nat.left_eq_add, Nat.add_left_cancel_iff, List.isEmpty_nil, SOper.again, same, sameBlk, sameCap, b_ft, b_tf, b_tt, b_ff, Bool.not_true, Bool.not_false, beq_self_eq_true, BEq.rfl, decide_eq_true_eq, ne_eq, not_false_eq_true, not_true_eq_false, Int.natCast_nonneg, Int.toNat_natCast, k_taken, Nat.one_mul, n_lt0_2, n_gt0_2, n_lt0_3, n_gt0_3, n_lt0_4, n_gt0_4, n_lt0_5, n_gt0_5, n_lt0_6, n_gt0_6, h_cellsV, h_nbare, h_gbare, h_bbare, k_len4, len_vList, taken_vList, shutC_vList, shutC_int, shutC_str, shutC_bool, shutC_nils, shutC_lst, shutC_lst0, shutC_func, shutV_agg, shutV_tuple, shutA_agg, shutV_int, shutV_str, shutV_bool, shutV_vList, shutV_nils, shutV_func, shutV_slice, shutA_int, shutA_str, shutA_bool, shutA_vList, shutA_slice, shutA_nils, mapHM_nil, mapHM_cons, same_refl, k_callS, Nat.reduceBneDiff, Bool.or_false, Bool.false_or, Bool.or_true, Bool.true_or, k_call1S, softV_int, softV_str, softV_bool, softV_ptr, softV_nilp, softV_nils, softV_vList, softV_agg, k_softM, k_softM0, h7, h8, h9, h3, Int.lt_irrefl, hKe, List.take_length, gives_ret]
    exact ⟨_, rfl⟩
  · simp -implicitDefEqProofs only [↓v_lenS, k_len1, k_len2, k_len3, s_nil, s_p, s_a, s_w, s_c, s_pa, s_g, k_p, k_a, k_w, k_c, k_cp, k_gt, k_gf, s_skip, s_ops, s_draw, s_seq, s_cond, s_block, s_loop, s_exit, s_ret, k_seqN, k_seqE, k_seqR, k_blockN, k_blockR, k_blockE, k_condT, k_condF, k_loopN, k_loopE, k_loopR, s_phs, s_phs0, s_ck, k_ck, fr_put, fr_put0, fr_get, ev_tmp, ev_lit, init_get, fin_ret, fin_norm, POp.val, AOp.val, WOp.val, Lite.bin, intBin, strBin, eqv, eqMany, eq1, AV.asBool, AV.asInt, AV.asNat, AV.asPtr, AV.asStr, cl_agg, cl_flat, resVals, ResV.val, oneOr, wants, skipped, fillAt, putAt, capOf, optNat, bnd, cond_true, cond_false, Nat.reduceBEq, reduceIte, Option.bind_some, Option.bind_none, Option.map_some, Option.map_none, List.map_cons, List.map_nil, List.append_nil, List.nil_append, List.cons_append, List.getElem?_cons_zero, List.getElem?_cons_succ, List.getElem?_nil, Option.getD_some, Option.getD_none, decide_true, decide_false, List.length_cons, List.length_nil, List.take_succ_cons, List.take_zero, List.take_nil, List.drop_succ_cons, List.drop_zero, List.drop_nil, h_n, h_nput, h_ndel, h_get, h_gput, h_gdel, h_base, h_bput, h_bdel, h_cells, h_cellsO, h_ld1, h_ldn, k_ldn, h_st, k_st, k_cells, List.all_cons, List.all_nil, fl_bool, fl_int, fl_str, fl_nilp, fl_ptr, fl_nils, fl_slice, fl_emp, fl_func, fl_nilf, fl_iface, fl_nili, Bool.and_true, Bool.true_and, Bool.and_false, Bool.false_and, and_true, true_and, and_self, Nat.zero_add, Nat.add_zero, Nat.reduceAdd, Nat.reduceLeDiff, Nat.reduceEqDiff, Nat.reduceSub, Nat.reduceMul, Nat.le_refl, Nat.add_eq_left, Nat.left_eq_add, Nat.add_left_cancel_iff, List.isEmpty_nil, SOper.again, same, sameBlk, sameCap, b_ft, b_tf, b_tt, b_ff, Bool.not_true, Bool.not_false, beq_self_eq_true, BEq.rfl, decide_eq_true_eq, ne_eq, not_false_eq_true, not_true_eq_false, Int.natCast_nonneg, Int.toNat_natCast, k_taken, Nat.one_mul, n_lt0_2, n_gt0_2, n_lt0_3, n_gt0_3, n_lt0_4, n_gt0_4, n_lt0_5, n_gt0_5, n_lt0_6, n_gt0_6, h_cellsV, h_nbare, h_gbare, h_bbare, k_len4, len_vList, taken_vList, shutC_vList, shutC_int, shutC_str, shutC_bool, shutC_nils, shutC_lst, shutC_lst0, shutC_func, shutV_agg, shutV_tuple, shutA_agg, shutV_int, shutV_str, shutV_bool, shutV_vList, shutV_nils, shutV_func, shutV_slice, shutA_int, shutA_str, shutA_bool, shutA_vList, shutA_slice, shutA_nils, mapHM_nil, mapHM_cons, same_refl, k_callS, Nat.reduceBneDiff, Bool.or_false, Bool.false_or, Bool.or_true, Bool.true_or, k_call1S, softV_int, softV_str, softV_bool, softV_ptr, softV_nilp, softV_nils, softV_vList, softV_agg, k_softM, k_softM0, List.take_zero, D.sizes]
    exact ⟨rfl, rfl⟩

end Go.Lite
