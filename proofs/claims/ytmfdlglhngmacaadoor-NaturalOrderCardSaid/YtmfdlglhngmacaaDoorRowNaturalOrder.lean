/- The row of the law NaturalOrder, and its card: what its call does, from the interpreter's run; what it lists, tied to the program's text. -/
import Derived.Test.YtmfdlglhngmacaaDoorQC
import Derived.Test.YtmfdlglhngmacaaDoorProg
import Derived.Test.YtmfdlglhngmacaaDoorQD
import Derived.Test.YtmfdlglhngmacaaDoorQO
import Derived.Test.YtmfdlglhngmacaaDoorTie
import Derived.Test.YtmfdlglhngmacaaDoorCards
import Derived.WalkKit
import Derived.ProofKit
import Derived.OpenShut
import Derived.ShutString
import Derived.ChangeOld
import Derived.Below
import Derived.SizedLaws
import Derived.HandedShaped
import Derived.Carry
import Derived.SevenTiedAt

/-
  The slimmed code of the functions, printed by program, and that it is what is computed from the program.
-/
namespace Go.Lite
open Go Go.Proofs
set_option maxRecDepth 100000
-- thunk/thunklaw10.NaturalOrder
def c10 : SFunc := ⟨74, (.seq (.ops [.mk (some 4) none (.p (.move (.lit (.bool false))))])
  (.seq (.seq (.ops [.mk (some 15) none (.call (.lit (.func 11 [])) []), .mk (some 16) none (.p (.not (.tmp 15)))])
  (.cond (.tmp 16)
  (.seq (.ops [.mk (some 4) none (.p (.move (.lit (.bool false))))])
  .ret)
  .skip))
  (.seq (.ops [.mk (some 17) none (.a (.buildS [.str [], .str [], .str [], .str [], .str [], .str [], .str []] 7 [(0, 1, .lit (.str [43])), (1, 1, .lit (.str [45])), (2, 1, .lit (.str [42])), (3, 1, .lit (.str [113, 117, 111, 116, 105, 101, 110, 116])), (4, 1, .lit (.str [114, 101, 109, 97, 105, 110, 100, 101, 114])), (5, 1, .lit (.str [60])), (6, 1, .lit (.str [61]))])), .mk (some 18) none (.p (.move (.tmp 1))), .mk (some 19) none (.call (.lit (.func 15 [])) [.tmp 18, .lit (.int IntKind.i64 7)]), .mk (some 20) none (.p (.iaddr 1 (.tmp 17) (.tmp 19))), .mk (some 21) none (.p (.load1 (.tmp 20))), .mk (some 5) none (.p (.move (.tmp 21)))])
  (.seq (.ops [.mk (some 22) none (.p (.build [.int IntKind.i64 0, .str [], .nils, .nils] [(0, 1, .lit (.int IntKind.i64 1)), (1, 1, .lit (.str [49]))])), .mk (some 6) none (.a (.newc 28 [.int IntKind.i64 0, .str [], .nils, .nils])), .mk none none (.w (.store 4 (.tmp 6) (.tmp 22)))])
  (.seq (.ops [.mk (some 23) none (.p (.build [.int IntKind.i64 0, .str [], .nils, .nils] [(0, 1, .lit (.int IntKind.i64 4)), (1, 1, .lit (.str [97]))])), .mk (some 7) none (.a (.newc 28 [.int IntKind.i64 0, .str [], .nils, .nils])), .mk none none (.w (.store 4 (.tmp 7) (.tmp 23)))])
  (.seq (.ops [.mk (some 24) none (.p (.loadn 4 (.tmp 7))), .mk (some 25) none (.a (.buildS [.int IntKind.i64 0, .str [], .nils, .nils] 1 [(0, 4, .tmp 24)])), .mk (some 26) none (.p (.build [.int IntKind.i64 0, .str [], .nils, .nils] [(0, 1, .lit (.int IntKind.i64 10)), (1, 1, .lit (.str [101, 114, 114, 111, 114])), (3, 1, .tmp 25)])), .mk (some 8) none (.a (.newc 28 [.int IntKind.i64 0, .str [], .nils, .nils])), .mk none none (.w (.store 4 (.tmp 8) (.tmp 26)))])
  (.seq (.ops [.mk (some 27) none (.p (.loadn 4 (.tmp 8))), .mk (some 28) none (.p (.loadn 4 (.tmp 7))), .mk (some 29) none (.a (.buildS [.int IntKind.i64 0, .str [], .nils, .nils, .int IntKind.i64 0, .str [], .nils, .nils] 2 [(0, 4, .tmp 27), (4, 4, .tmp 28)])), .mk (some 30) none (.p (.loadn 4 (.tmp 7))), .mk (some 31) none (.p (.loadn 4 (.tmp 8))), .mk (some 32) none (.a (.buildS [.int IntKind.i64 0, .str [], .nils, .nils, .int IntKind.i64 0, .str [], .nils, .nils] 2 [(0, 4, .tmp 30), (4, 4, .tmp 31)])), .mk (some 33) none (.p (.loadn 4 (.tmp 6))), .mk (some 34) none (.p (.loadn 4 (.tmp 8))), .mk (some 35) none (.a (.buildS [.int IntKind.i64 0, .str [], .nils, .nils, .int IntKind.i64 0, .str [], .nils, .nils] 2 [(0, 4, .tmp 33), (4, 4, .tmp 34)])), .mk (some 36) none (.p (.loadn 4 (.tmp 6))), .mk (some 37) none (.p (.loadn 4 (.tmp 7))), .mk (some 38) none (.a (.buildS [.int IntKind.i64 0, .str [], .nils, .nils, .int IntKind.i64 0, .str [], .nils, .nils] 2 [(0, 4, .tmp 36), (4, 4, .tmp 37)])), .mk (some 39) none (.p (.loadn 4 (.tmp 7))), .mk (some 40) none (.p (.loadn 4 (.tmp 6))), .mk (some 41) none (.a (.buildS [.int IntKind.i64 0, .str [], .nils, .nils, .int IntKind.i64 0, .str [], .nils, .nils] 2 [(0, 4, .tmp 39), (4, 4, .tmp 40)])), .mk (some 42) none (.p (.build [.int IntKind.i64 0, .str [], .nils, .nils] [(0, 1, .lit (.int IntKind.i64 3))])), .mk (some 43) none (.p (.build [.int IntKind.i64 0, .str [], .nils, .nils] [(0, 1, .lit (.int IntKind.i64 2)), (1, 1, .lit (.str [35, 116]))])), .mk (some 44) none (.a (.buildS [.int IntKind.i64 0, .str [], .nils, .nils, .int IntKind.i64 0, .str [], .nils, .nils] 2 [(0, 4, .tmp 42), (4, 4, .tmp 43)])), .mk (some 45) none (.a (.buildS [.nils, .nils, .nils, .nils, .nils, .nils] 6 [(0, 1, .tmp 29), (1, 1, .tmp 32), (2, 1, .tmp 35), (3, 1, .tmp 38), (4, 1, .tmp 41), (5, 1, .tmp 44)])), .mk (some 9) none (.p (.move (.tmp 45)))])
  (.seq (.ops [.mk (some 46) none (.a (.buildS [.str [], .str [], .str [], .str [], .str [], .str []] 6 [(0, 1, .lit (.str [101, 114, 114, 111, 114, 32, 97])), (1, 1, .lit (.str [110, 117, 109, 98, 101, 114])), (2, 1, .lit (.str [101, 114, 114, 111, 114, 32, 97])), (3, 1, .lit (.str [110, 117, 109, 98, 101, 114])), (4, 1, .lit (.str [110, 117, 109, 98, 101, 114])), (5, 1, .lit (.str [110, 117, 109, 98, 101, 114]))])), .mk (some 10) none (.p (.move (.tmp 46)))])
  (.seq (.ops [.mk (some 47) none (.p (.move (.tmp 0))), .mk (some 48) none (.p (.move (.tmp 9))), .mk (some 49) none (.p (.lenS (.tmp 48))), .mk (some 50) none (.call (.lit (.func 15 [])) [.tmp 47, .tmp 49]), .mk (some 11) none (.p (.move (.tmp 50)))])
  (.seq (.ops [.mk (some 52) none (.p (.move (.tmp 5))), .mk (some 53) none (.p (.move (.tmp 9))), .mk (some 54) none (.p (.move (.tmp 11))), .mk (some 55) none (.p (.iaddr 1 (.tmp 53) (.tmp 54))), .mk (some 56) none (.p (.load1 (.tmp 55))), .mk (some 57) none (.p (.build [.int IntKind.i64 0, .str [], .nils, .nils] [(0, 1, .lit (.int IntKind.i64 10)), (1, 1, .tmp 52), (3, 1, .tmp 56)])), .mk (some 58) none (.call (.lit (.func 14 [])) [.tmp 57, .lit .nils, .lit (.int IntKind.i64 100)]), .mk (some 51) none (.p (.move (.tmp 58))), .mk (some 59) none (.p (.extract (.tmp 51) 0)), .mk (some 60) none (.p (.extract (.tmp 51) 1)), .mk (some 61) none (.p (.extract (.tmp 51) 2)), .mk (some 12) none (.a (.newc 31 [.int IntKind.i64 0, .str [], .int IntKind.i64 0])), .mk none none (.w (.store 3 (.tmp 12) (.tmp 59))), .mk (some 13) none (.p (.move (.tmp 60))), .mk (some 14) none (.p (.move (.tmp 61)))])
  (.seq (.draw [.mk (some 62) none (.p (.loadn 3 (.tmp 12))), .mk (some 63) none (.p (.move (.tmp 10))), .mk (some 64) none (.p (.move (.tmp 11))), .mk (some 65) none (.p (.iaddr 1 (.tmp 63) (.tmp 64))), .mk (some 66) none (.p (.load1 (.tmp 65))), .mk (some 67) none (.p (.build [.int IntKind.i64 0, .str [], .int IntKind.i64 0] [(0, 1, .lit (.int IntKind.i64 2)), (1, 1, .tmp 66)])), .mk (some 68) none (.p (.bin .eql (.many [(0, 1), (1, 2), (2, 1)]) (.tmp 62) (.tmp 67))), .mk (some 69) none (.p (.move (.tmp 68))), .mk (some 70) (some (69, true)) (.p (.move (.tmp 5)))] [(.mk (some 71) (some (69, true)) (.call (.lit (.func 22 [])) [.tmp 70]), [], [.mk (some 72) (some (69, true)) (.p (.bin .eql .none (.tmp 71) (.lit (.int IntKind.i64 2)))), .mk (some 73) none (.p (.pick (.tmp 69) (.tmp 72) (.lit (.bool false)))), .mk (some 4) none (.p (.move (.tmp 73)))])])
  .ret))))))))))), [.tmp 4]⟩
theorem code10 (own : OwnT) (mode : FuncId → Nat) : (slimPrg Tryd.prog own mode).code 10 = some c10 := by kernel_rfl
end Go.Lite

/-
  The law NaturalOrder.
-/
namespace Go.Lite
open Go Go.Proofs
set_option maxRecDepth 100000
set_option linter.unusedSimpArgs false
set_option linter.unusedVariables false

def opsT : List Str := [[43], [45], [42], [113, 117, 111, 116, 105, 101, 110, 116], [114, 101, 109, 97, 105, 110, 100, 101, 114], [60], [61]]
def symX : X := .mk 4 [97] [] []
def errX : X := .mk 10 errorT [] [symX]
def nilP : X := .mk 3 [] [] []
def truX : X := .mk 2 [35, 116] [] []
def rowsX : List (X × X × Str) := [(errX, symX, [101, 114, 114, 111, 114, 32, 97]), (symX, errX, [110, 117, 109, 98, 101, 114]), (oneX, errX, [101, 114, 114, 111, 114, 32, 97]), (oneX, symX, [110, 117, 109, 98, 101, 114]), (symX, oneX, [110, 117, 109, 98, 101, 114]), (nilP, truX, [110, 117, 109, 98, 101, 114])]

theorem ops_not {s : Str} (h : s ∈ opsT) : ¬ s = consP ∧ ¬ s = seqT ∧ ¬ s = eqP ∧ arityX s = 2 ∧ s.length ≤ 1000 ∧ ∀ c ∈ s, c < 256 := by
  have key : ∀ s ∈ opsT, ¬ s = consP ∧ ¬ s = seqT ∧ ¬ s = eqP ∧ arityX s = 2 ∧ s.length ≤ 1000 ∧ ∀ c ∈ s, c < 256 := by decide
  exact key s h

set_option maxHeartbeats 1000000 in
theorem order_out {s : Str} (h : s ∈ opsT) {a b : X} {w : Str} (hr : (a, b, w) ∈ rowsX) : ∃ st, outA 6 (.mk 10 s [] [a, b]) [] 100 = some (.stop 2 w st) := by
  obtain ⟨h1, h2, h3, _⟩ := ops_not h
  unfold outA
  simp only [rowsX, List.mem_cons, List.not_mem_nil, or_false, Prod.mk.injEq] at hr
  rcases hr with ⟨rfl, rfl, rfl⟩ | ⟨rfl, rfl, rfl⟩ | ⟨rfl, rfl, rfl⟩ | ⟨rfl, rfl, rfl⟩ | ⟨rfl, rfl, rfl⟩ | ⟨rfl, rfl, rfl⟩
  all_goals
    simp [errX, symX, oneX, nilP, truX, evalA_s, evalF, prim2F, prim1F, S.tick, constV, O.bind, inputA, S.new, h1, h2, h3, errorT, carT, cdrT, nullT, pairT, integerT, symbolT, notT, V.kind, V.text]

theorem one_num : numOk 1 [49] := ⟨⟨by simp, by simp⟩, fun _ => ⟨1, by decide, by rw [show (1 : Int) = ((1 : Nat) : Int) from rfl, decZ_nonneg, decN_small (by omega)]⟩⟩
theorem order_tame {s : Str} (h : s ∈ opsT) {a b : X} {w : Str} (hr : (a, b, w) ∈ rowsX) : (X.mk 10 s [] [a, b]).tame := by
  obtain ⟨_, _, _, _, h5, h6⟩ := ops_not h
  have t0 : symX.tame := ⟨⟨⟨by simp, by simp⟩, fun h => absurd h (by decide)⟩, by simp, by simp, trivial⟩
  have t1 : errX.tame := ⟨⟨⟨by decide, by decide⟩, fun h => absurd h (by decide)⟩, by simp, by simp, t0, trivial⟩
  have t2 : oneX.tame := ⟨one_num, by simp, by simp, trivial⟩
  have t3 : nilP.tame := ⟨⟨⟨by simp, by simp⟩, fun h => absurd h (by decide)⟩, by simp, by simp, trivial⟩
  have t4 : truX.tame := ⟨⟨⟨by simp, by simp⟩, fun h => absurd h (by decide)⟩, by simp, by simp, trivial⟩
  refine ⟨⟨⟨h5, h6⟩, fun h => absurd h (by decide)⟩, by simp, by simp, ?_⟩
  simp only [rowsX, List.mem_cons, List.not_mem_nil, or_false, Prod.mk.injEq] at hr
  rcases hr with ⟨rfl, rfl, rfl⟩ | ⟨rfl, rfl, rfl⟩ | ⟨rfl, rfl, rfl⟩ | ⟨rfl, rfl, rfl⟩ | ⟨rfl, rfl, rfl⟩ | ⟨rfl, rfl, rfl⟩
  all_goals
    first
      | exact ⟨t1, t0, trivial⟩
      | exact ⟨t0, t1, trivial⟩
      | exact ⟨t2, t1, trivial⟩
      | exact ⟨t2, t0, trivial⟩
      | exact ⟨t0, t2, trivial⟩
      | exact ⟨t3, t4, trivial⟩

theorem order_call {s : Str} (h : s ∈ opsT) {a b : X} {w : Str} (hr : (a, b, w) ∈ rowsX) : ∃ st us : Int, ∀ H, evalV (X.mk 10 s [] [a, b]).v 100 H = some (.ret (.tuple [.agg [.int .i64 2, .str w, .int .i64 0], .int .i64 st, .int .i64 us]), H) := by
  obtain ⟨st, ho⟩ := order_out h hr
  refine ⟨st.steps, st.uses, fun H => ?_⟩
  rw [evalV_ok (order_tame h hr) 100 100 rfl (by omega) ho, resV_eq]; rfl

set_option maxHeartbeats 8000000 in
theorem law10 (which op : Int) : Ret P6 10 [.int .i64 which, .int .i64 op] (.bool true) := by
  obtain ⟨o0, o1⟩ := within_range op (b := 7) (by decide) (by decide)
  obtain ⟨w0, w1⟩ := within_range which (b := 6) (by decide) (by decide)
  obtain ⟨j, hj⟩ : ∃ j : Nat, within op 7 = (j : Int) := ⟨(within op 7).toNat, by omega⟩
  obtain ⟨k, hk⟩ : ∃ k : Nat, within which 6 = (k : Int) := ⟨(within which 6).toNat, by omega⟩
  have hj7 : j < 7 := by omega
  have hk6 : k < 6 := by omega
  obtain ⟨s, hs⟩ : ∃ s, opsT[j]? = some s := ⟨opsT[j]'(by simpa [opsT] using hj7), List.getElem?_eq_getElem _⟩
  have hsm := List.mem_of_getElem? hs
  have hdrop : (([AV.str [43], .str [45], .str [42], .str [113, 117, 111, 116, 105, 101, 110, 116], .str [114, 101, 109, 97, 105, 110, 100, 101, 114], .str [60], .str [61]] : List AV).drop (j * 1)).take 1 = [.str s] := by
    match j, hj7, hs with
    | 0, _, hs => cases hs; rfl
    | 1, _, hs => cases hs; rfl
    | 2, _, hs => cases hs; rfl
    | 3, _, hs => cases hs; rfl
    | 4, _, hs => cases hs; rfl
    | 5, _, hs => cases hs; rfl
    | 6, _, hs => cases hs; rfl
  refine Ret.of rfl (code10 _ _) rfl rfl (fun H => by simp -implicitDefEqProofs only [↓v_lenS, ZZ, Nat.reduceBEq, reduceIte, Nat.reduceAdd, Nat.reduceLeDiff, Nat.reduceEqDiff, Nat.reduceSub, Nat.reduceMul, Nat.reduceDiv, Nat.reduceBneDiff]) (known11.and ((run15 op 7 (by decide)).and ((run15 which ((6 : Nat) : Int) (by decide)).and (((arity47 s).up).and (Ev.ge 1)))) |>.mono fun n hn H => ?_)
  obtain ⟨e11, e15, e15', e22, hn⟩ := hn
  obtain ⟨n, rfl⟩ : ∃ k, n = k + 1 := ⟨n - 1, by omega⟩
  rw [hj] at e15
  rw [show within which ((6 : Nat) : Int) = (k : Int) from hk] at e15'
  rw [(ops_not hsm).2.2.2.1] at e22
  match k, hk6 with
  | 0, _ =>
    obtain ⟨st, us, eV⟩ := order_call hsm (List.mem_of_getElem? (i := 0) (l := rowsX) rfl)
    simp only [X.v_mk, vXs, vList_cons, vList_nil, List.flatMap_cons, List.flatMap_nil, List.length_cons, List.length_nil, errX, symX, oneX, nilP, truX, X.cells_mk, errorT, List.cons_append, List.nil_append, List.append_nil, vStrs, Nat.reduceAdd] at eV
    simp -implicitDefEqProofs only [c10, ↓v_lenS, ZZ, Nat.reduceBEq, reduceIte, Nat.reduceAdd, Nat.reduceLeDiff, Nat.reduceEqDiff, Nat.reduceSub, Nat.reduceMul, Nat.reduceDiv, Nat.reduceBneDiff, CM, XS, e11, e15, e15', e22, hj7, hdrop, call14s, eV, Ends, gives_ret, show (0 : Nat) < 6 from by decide, Int.reduceBEq, shutC_sl, shutRow_row, mapHM_cons, mapHM_nil, Cap.es, Cap.full]
    exact ⟨_, rfl⟩
  | 1, _ =>
    obtain ⟨st, us, eV⟩ := order_call hsm (List.mem_of_getElem? (i := 1) (l := rowsX) rfl)
    simp only [X.v_mk, vXs, vList_cons, vList_nil, List.flatMap_cons, List.flatMap_nil, List.length_cons, List.length_nil, errX, symX, oneX, nilP, truX, X.cells_mk, errorT, List.cons_append, List.nil_append, List.append_nil, vStrs, Nat.reduceAdd] at eV
    simp -implicitDefEqProofs only [c10, ↓v_lenS, ZZ, Nat.reduceBEq, reduceIte, Nat.reduceAdd, Nat.reduceLeDiff, Nat.reduceEqDiff, Nat.reduceSub, Nat.reduceMul, Nat.reduceDiv, Nat.reduceBneDiff, CM, XS, e11, e15, e15', e22, hj7, hdrop, call14s, eV, Ends, gives_ret, show (1 : Nat) < 6 from by decide, Int.reduceBEq, shutC_sl, shutRow_row, mapHM_cons, mapHM_nil, Cap.es, Cap.full]
    exact ⟨_, rfl⟩
  | 2, _ =>
    obtain ⟨st, us, eV⟩ := order_call hsm (List.mem_of_getElem? (i := 2) (l := rowsX) rfl)
    simp only [X.v_mk, vXs, vList_cons, vList_nil, List.flatMap_cons, List.flatMap_nil, List.length_cons, List.length_nil, errX, symX, oneX, nilP, truX, X.cells_mk, errorT, List.cons_append, List.nil_append, List.append_nil, vStrs, Nat.reduceAdd] at eV
    simp -implicitDefEqProofs only [c10, ↓v_lenS, ZZ, Nat.reduceBEq, reduceIte, Nat.reduceAdd, Nat.reduceLeDiff, Nat.reduceEqDiff, Nat.reduceSub, Nat.reduceMul, Nat.reduceDiv, Nat.reduceBneDiff, CM, XS, e11, e15, e15', e22, hj7, hdrop, call14s, eV, Ends, gives_ret, show (2 : Nat) < 6 from by decide, Int.reduceBEq, shutC_sl, shutRow_row, mapHM_cons, mapHM_nil, Cap.es, Cap.full]
    exact ⟨_, rfl⟩
  | 3, _ =>
    obtain ⟨st, us, eV⟩ := order_call hsm (List.mem_of_getElem? (i := 3) (l := rowsX) rfl)
    simp only [X.v_mk, vXs, vList_cons, vList_nil, List.flatMap_cons, List.flatMap_nil, List.length_cons, List.length_nil, errX, symX, oneX, nilP, truX, X.cells_mk, errorT, List.cons_append, List.nil_append, List.append_nil, vStrs, Nat.reduceAdd] at eV
    simp -implicitDefEqProofs only [c10, ↓v_lenS, ZZ, Nat.reduceBEq, reduceIte, Nat.reduceAdd, Nat.reduceLeDiff, Nat.reduceEqDiff, Nat.reduceSub, Nat.reduceMul, Nat.reduceDiv, Nat.reduceBneDiff, CM, XS, e11, e15, e15', e22, hj7, hdrop, call14s, eV, Ends, gives_ret, show (3 : Nat) < 6 from by decide, Int.reduceBEq, shutC_sl, shutRow_row, mapHM_cons, mapHM_nil, Cap.es, Cap.full]
    exact ⟨_, rfl⟩
  | 4, _ =>
    obtain ⟨st, us, eV⟩ := order_call hsm (List.mem_of_getElem? (i := 4) (l := rowsX) rfl)
    simp only [X.v_mk, vXs, vList_cons, vList_nil, List.flatMap_cons, List.flatMap_nil, List.length_cons, List.length_nil, errX, symX, oneX, nilP, truX, X.cells_mk, errorT, List.cons_append, List.nil_append, List.append_nil, vStrs, Nat.reduceAdd] at eV
    simp -implicitDefEqProofs only [c10, ↓v_lenS, ZZ, Nat.reduceBEq, reduceIte, Nat.reduceAdd, Nat.reduceLeDiff, Nat.reduceEqDiff, Nat.reduceSub, Nat.reduceMul, Nat.reduceDiv, Nat.reduceBneDiff, CM, XS, e11, e15, e15', e22, hj7, hdrop, call14s, eV, Ends, gives_ret, show (4 : Nat) < 6 from by decide, Int.reduceBEq, shutC_sl, shutRow_row, mapHM_cons, mapHM_nil, Cap.es, Cap.full]
    exact ⟨_, rfl⟩
  | 5, _ =>
    obtain ⟨st, us, eV⟩ := order_call hsm (List.mem_of_getElem? (i := 5) (l := rowsX) rfl)
    simp only [X.v_mk, vXs, vList_cons, vList_nil, List.flatMap_cons, List.flatMap_nil, List.length_cons, List.length_nil, errX, symX, oneX, nilP, truX, X.cells_mk, errorT, List.cons_append, List.nil_append, List.append_nil, vStrs, Nat.reduceAdd] at eV
    simp -implicitDefEqProofs only [c10, ↓v_lenS, ZZ, Nat.reduceBEq, reduceIte, Nat.reduceAdd, Nat.reduceLeDiff, Nat.reduceEqDiff, Nat.reduceSub, Nat.reduceMul, Nat.reduceDiv, Nat.reduceBneDiff, CM, XS, e11, e15, e15', e22, hj7, hdrop, call14s, eV, Ends, gives_ret, show (5 : Nat) < 6 from by decide, Int.reduceBEq, shutC_sl, shutRow_row, mapHM_cons, mapHM_nil, Cap.es, Cap.full]
    exact ⟨_, rfl⟩

end Go.Lite

/- The row of the law NaturalOrder, and its card: what its call does, from the interpreter's run; what it lists, tied to the program's text. -/
namespace Go.Proofs.YtmfdlglhngmacaaDoor.naturalOrder
open Go.ChangeShapes Go.WideShapes Go.ChangeAt Go.RowKit Go.Lite
open Go.ChangeMaps (open_string shut_string)
set_option linter.unusedVariables false
set_option maxRecDepth 100000
theorem own : ownKnob Tryd.prog.godebug = none := by kernel_rfl
theorem laid_met (os : Os) : laidMet Tryd.prog Rows.naturalOrderRow.laid ((laidWorld Tryd.prog os [(2, Rows.laid_math_bits_deBruijn32tab), (3, Rows.laid_math_bits_deBruijn64tab), (0, Rows.laid_internal_strconv_uint64pow10)]).forCall (fun _ _ => 0) ⟨#[], #[.int .i64 0, .int .i64 0], []⟩).memory :=
  laidMet_of_run' 8 (by kernel_rfl) (by kernel_rfl)
theorem lifted (os : Os) (started : os.Started) (H : Type) (enc : TypeId × Value → H) :
    ReturnsInHanded {} Tryd.checked os 10 .any (fun w args => (Rows.naturalOrderSpec.pre enc Tryd.prog Tryd.f10 Rows.naturalOrderRow.domain false w args ∧ laidMet Tryd.prog Rows.naturalOrderRow.laid w) ∧ sizedMet enc Tryd.prog Tryd.f10 (OpenSpec.ofChange Rows.naturalOrderSpec) false w args) (Rows.naturalOrderSpec.post enc Tryd.prog Tryd.f10 false true false false) := by
  refine returns_laid (C := Tryd.checked) (X := fun w _ => laidMet Tryd.prog Rows.naturalOrderRow.laid w) own started (by kernel_rfl) Tryd.func10
    (ChangeSpec.witness_at (enc := enc) (C := Tryd.checked) (os := os) (X := fun w _ => laidMet Tryd.prog Rows.naturalOrderRow.laid w) false (laidWorld Tryd.prog os [(2, Rows.laid_math_bits_deBruijn32tab), (3, Rows.laid_math_bits_deBruijn64tab), (0, Rows.laid_internal_strconv_uint64pow10)]) #[.int .i64 0, .int .i64 0] 8 rfl (by kernel_rfl) (by kernel_rfl) (by kernel_rfl) (by kernel_rfl) (by kernel_rfl) (laid_met os)) ?_
  intro W base args ds gs before hval0 hW hcnd hsz0 hsh hlx _
  have hsz : (DataW.weightsEach Tryd.prog (Tryd.f10.params.toList ++ Rows.naturalOrderSpec.plain.varTypes Tryd.prog) (ds ++ gs)).all (· ≤ reachBytes) = true := hsz0
  have hval : ∀ (j : Nat) t v, Tryd.f10.params[j]? = some t → args[j]? = some v → Value.okWide Tryd.prog W .any base t v := hval0
  have hW' := hW
  obtain ⟨p, q, hA0, hV, rfl, hfz, hnd⟩ := hW
  have hA : DataW.TrodAll enc Tryd.prog W 0 (fun _ => true) true Tryd.f10.params.toList args.toList ds p := hA0
  rw [Tryd.params10] at hA hval hsz
  obtain ⟨v0, vs0, d0, ds0, p0, q0, hargs, rfl, rfl, h0, r0⟩ := trodAll_cons hA
  obtain ⟨v1, vs1, d1, ds1, p1, q1, rfl, rfl, rfl, h1, r1⟩ := trodAll_cons r0
  obtain ⟨rfl, rfl, rfl⟩ := trodAll_nil r1
  obtain rfl : args = #[v0, v1] := by cases args; simp_all
  obtain ⟨rfl, rfl⟩ := trodVars_none hV
  obtain ⟨a0, rfl, rfl, rfl, w0⟩ := open_int Tryd.underlying3 (hval 0 3 v0 rfl rfl) h0
  obtain ⟨a1, rfl, rfl, rfl, w1⟩ := open_int Tryd.underlying3 (hval 1 3 v1 rfl rfl) h1
  refine (calls_of_ret hsh (tab_of_laid hlx) (law10 a0 a1) (by simp only [VRels]; exact ⟨_, _, rfl, rfl, _, _, rfl, rfl, rfl⟩)).mono fun e W' ⟨he, bel⟩ => ?_
  subst he
  exact ⟨_, rfl, _, _, _, [], _, [], hW', trodAll_mk1 (shut_bool Tryd.underlying4 _), (trodAll_cons_mk (shut_int Tryd.underlying3 w0) (trodAll_cons_mk (shut_int Tryd.underlying3 w1) trodAll_mk0)), rfl, bel.frame _, fun h => by cases h⟩
theorem over : Rows.naturalOrderRow.holds Tryd.pinned (OpenSpec.ofChange Rows.naturalOrderSpec) :=
  OpenClaim.holds_of_wide 10 Tryd.f10 rfl rfl rfl rfl rfl rfl rfl ⟨rfl, rfl, rfl, rfl, rfl⟩ rfl rfl rfl rfl rfl (by kernel_rfl) Tryd.func10 (by kernel_rfl)
    (of_decide_eq_true (by kernel_rfl)) (by unfold Func.isWrapper; first | (rw [if_pos (by decide +kernel)]; kernel_rfl) | (rw [if_neg (by decide +kernel)]; exact ⟨rfl, rfl⟩))
    (fun os started H enc _ => lifted os started H enc)
theorem card : Rows.NaturalOrderCardSaid :=
  Claim7.holds_tied_plain_at .later [] [.data, .data, .data] true (true, "06472ccc2e734025fb51c4dbe6afee2256fcaf741367e7b75c75ff11b22c96a1") true over (fun _ h => by cases h) (by kernel_rfl) (fun _ h => by cases h) naturalOrder_row_tie rfl ⟨rfl, rfl⟩ (by kernel_rfl) (by first | rfl | decide)
    (fun f fn h1 h2 => by
      obtain rfl : f = 10 := Option.some.inj (h1.symm.trans (by kernel_rfl))
      obtain rfl : fn = Tryd.f10 := Option.some.inj (h2.symm.trans Tryd.func10)
      refine ⟨by kernel_rfl, fun j t hj => ?_⟩
      rw [Tryd.params10] at hj
      match j, hj with
      | 0, hj =>
        obtain rfl : t = 3 := by simpa using hj.symm
        exact (by kernel_rfl : Tryd.pinned.checked.prog.wantsStandIn 3 = false)
      | 1, hj =>
        obtain rfl : t = 3 := by simpa using hj.symm
        exact (by kernel_rfl : Tryd.pinned.checked.prog.wantsStandIn 3 = false)
      | j + 2, hj => simp at hj)
    (by kernel_rfl)
#print axioms card
end Go.Proofs.YtmfdlglhngmacaaDoor.naturalOrder
namespace Go.Proofs.YtmfdlglhngmacaaDoor
/-- The card, under a short name, for the claim. -/
theorem naturalOrder_holds : Rows.NaturalOrderCardSaid := naturalOrder.card
end Go.Proofs.YtmfdlglhngmacaaDoor
