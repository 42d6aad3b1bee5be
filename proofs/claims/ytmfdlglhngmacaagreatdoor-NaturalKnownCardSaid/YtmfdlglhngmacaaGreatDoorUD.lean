/-
  Several texts in one: Code.
-/
import Derived.Test.YtmfdlglhngmacaaGreatDoorUC
import Derived.Test.YtmfdlglhngmacaaGreatDoorProg
import Derived.KernelRfl

set_option linter.unusedSimpArgs false
set_option linter.unusedVariables false
set_option linter.defProp false
set_option maxRecDepth 100000

/-
  The slimmed code of the functions, printed by program, and that it is what is computed from the program.
-/
namespace Go.Lite
open Go Go.Proofs
abbrev oM (d m : Nat) : SOper := ⟨some d, none, .p (.move (.tmp m))⟩
abbrev oL (d m : Nat) : SOper := ⟨some d, none, .p (.load1 (.tmp m))⟩
abbrev oF (d k m : Nat) : SOper := ⟨some d, none, .p (.faddr k (.tmp m))⟩
abbrev oN (d k m : Nat) : SOper := ⟨some d, none, .p (.loadn k (.tmp m))⟩
abbrev oK (d m : Nat) : SOper := ⟨some d, none, .p (.nilchk (.tmp m))⟩
abbrev oE (d m : Nat) : SOper := ⟨some d, none, .p (.lenS (.tmp m))⟩
abbrev oI (d : Nat) (n : Int) : SOper := ⟨some d, none, .p (.move (.lit (.int .i64 n)))⟩
abbrev oB (d : Nat) (o : BinOp) (a b : Nat) : SOper := ⟨some d, none, .p (.bin o .none (.tmp a) (.tmp b))⟩
abbrev oJ (d : Nat) (o : BinOp) (a : Nat) (n : Int) : SOper := ⟨some d, none, .p (.bin o .none (.tmp a) (.lit (.int .i64 n)))⟩
abbrev oC (d f : Nat) (l : List SX) : SOper := ⟨some d, none, .call (.lit (.func f [])) l⟩
abbrev oS (n a b : Nat) : SOper := ⟨none, none, .w (.store n (.tmp a) (.tmp b))⟩
abbrev oP (d : Nat) (o : POp) : SOper := ⟨some d, none, .p o⟩
abbrev oA (d : Nat) (o : AOp) : SOper := ⟨some d, none, .a o⟩
abbrev oW (d : Nat) (o : WOp) : SOper := ⟨some d, none, .w o⟩
abbrev oG (d g : Nat) (b : Bool) (o : POp) : SOper := ⟨some d, some (g, b), .p o⟩
abbrev OwnT := FuncId → Option (List AV → Heap → R)
-- thunk/thunklaw10.known
def c7 : SFunc := ⟨26, (.seq (.ops [oP 0 (.move (.lit (.bool false)))])
  (.seq (.ops [oP 5 (.build [.int .i64 0, .str [], .nils, .nils] [(0, 1, .lit (.int .i64 1)), (1, 1, .lit (.str [53]))]), oC 6 12 ([.tmp 5, .lit .nils, .lit (.int .i64 1)]), oM 4 6, oP 7 (.extract (.tmp 4) 0), oP 8 (.extract (.tmp 4) 1), oP 9 (.extract (.tmp 4) 2), oA 1 (.newc 34 [.int .i64 0, .str [], .int .i64 0]), oS 3 1 7, oM 2 8, oM 3 9])
  (.seq (.ops [oF 10 0 1, oL 11 10, oJ 12 .eql 11 1, oM 13 12, oG 14 13 true (.faddr 1 (.tmp 1)), oG 15 13 true (.load1 (.tmp 14)), oG 16 13 true (.bin .eql .none (.tmp 15) (.lit (.str [53]))), oP 17 (.pick (.tmp 13) (.tmp 16) (.lit (.bool false))), oM 18 17, oG 19 18 true (.move (.tmp 2)), oG 20 18 true (.bin .eql .none (.tmp 19) (.lit (.int .i64 1))), oP 21 (.pick (.tmp 18) (.tmp 20) (.lit (.bool false))), oM 22 21, oG 23 22 true (.move (.tmp 3)), oG 24 22 true (.bin .eql .none (.tmp 23) (.lit (.int .i64 0))), oP 25 (.pick (.tmp 22) (.tmp 24) (.lit (.bool false))), oM 0 25])
  .ret))), [.tmp 0]⟩
theorem code7 (own : OwnT) (mode : FuncId → Nat) : (slimPrg Tryz.prog own mode).code 7 = some c7 := by kernel_rfl
-- thunk/thunklaw5.Few
def c8 : SFunc := ⟨6, (.seq (.ops [oP 2 (.move (.lit (.bool false)))])
  (.seq (.ops [oM 3 0, oC 4 20 ([.tmp 3, .lit (.int .i64 0)]), oJ 5 .leq 4 40, oM 2 5])
  .ret)), [.tmp 2]⟩
def c9_l0 : SCode :=
  (.seq (.seq (.ops [oM 22 5, oM 23 0, oE 24 23, oB 25 .lss 22 24, oM 26 25, oG 27 26 true (.move (.tmp 5)), oG 28 26 true (.bin .lss .none (.tmp 27) (.lit (.int .i64 5))), oP 29 (.pick (.tmp 26) (.tmp 28) (.lit (.bool false)))])
  (.cond (.tmp 29)
  .skip
  (.exit 0)))
  (.seq (.block 1 (.draw [oF 32 2 4, oL 33 32, oM 34 3] [(oC 35 22 ([.tmp 34]), [oL 33 32], [oA 36 (.buildS [.str []] 1 [(0, 1, .tmp 35)])]), (oW 37 (.append 9 1 16 (.tmp 33) (.tmp 36)), [], [oF 38 2 4]), (oS 1 38 37, [], [])]))
  (.ops [oM 30 5, oJ 31 .add 30 1, oM 5 31])))
def c9_l1 : SCode :=
  (.seq (.seq (.ops [oM 39 6, oM 40 0, oE 41 40, oB 42 .lss 39 41, oM 43 42, oG 44 43 true (.move (.tmp 6)), oG 45 43 true (.bin .lss .none (.tmp 44) (.lit (.int .i64 5))), oP 46 (.pick (.tmp 43) (.tmp 45) (.lit (.bool false)))])
  (.cond (.tmp 46)
  .skip
  (.exit 2)))
  (.seq (.block 3 (.draw [oF 49 3 4, oL 50 49, oM 51 3, oM 52 0, oM 53 6, oP 54 (.iaddr 3 (.tmp 52) (.tmp 53)), oN 55 3 54, oF 56 2 4, oL 57 56] [(oC 58 21 ([.tmp 51, .tmp 55, .tmp 57]), [oL 50 49], [oA 59 (.buildS [.int .i64 0, .str [], .nils, .nils] 1 [(0, 4, .tmp 58)])]), (oW 60 (.append 28 4 72 (.tmp 50) (.tmp 59)), [], [oF 61 3 4]), (oS 1 61 60, [], [])]))
  (.ops [oM 47 6, oJ 48 .add 47 1, oM 6 48])))
def c9 : SFunc := ⟨75, (.seq (.ops [oA 2 (.newc 28 [.int .i64 0, .str [], .nils, .nils])])
  (.seq (.ops [oP 7 (.build [.int .i64 0] []), oA 8 (.box 53 (.tmp 7)), oM 3 8])
  (.seq (.seq (.ops [oM 9 0, oE 10 9, oJ 11 .eql 10 0])
  (.cond (.tmp 11)
  (.seq (.ops [oP 12 (.build [.int .i64 0, .str [], .nils, .nils] [(0, 1, .lit (.int .i64 1)), (1, 1, .lit (.str [53]))]), oS 4 2 12])
  .ret)
  .skip))
  (.seq (.seq (.ops [oM 13 0, oE 14 13, oJ 15 .eql 14 1])
  (.cond (.tmp 15)
  (.seq (.ops [oM 16 3, oM 17 0, oP 18 (.iaddr 3 (.tmp 17) (.lit (.int .i64 0))), oN 19 3 18, oC 20 21 ([.tmp 16, .tmp 19, .lit .nils]), oS 4 2 20])
  .ret)
  .skip))
  (.seq (.ops [oP 21 (.build [.int .i64 0, .str [], .nils, .nils] [(0, 1, .lit (.int .i64 9))]), oA 4 (.newc 28 [.int .i64 0, .str [], .nils, .nils]), oS 4 4 21])
  (.seq (.seq (.ops [oI 5 1])
  (.block 0 (.loop c9_l0)))
  (.seq (.seq (.ops [oI 6 1])
  (.block 2 (.loop c9_l1)))
  (.seq (.draw [oF 62 3 4, oL 63 62, oM 64 3, oM 65 0, oP 66 (.iaddr 3 (.tmp 65) (.lit (.int .i64 0))), oN 67 3 66, oF 68 2 4, oL 69 68] [(oC 70 21 ([.tmp 64, .tmp 67, .tmp 69]), [oL 63 62], [oA 71 (.buildS [.int .i64 0, .str [], .nils, .nils] 1 [(0, 4, .tmp 70)])]), (oW 72 (.append 28 4 72 (.tmp 63) (.tmp 71)), [], [oF 73 3 4]), (oS 1 73 72, [], [])])
  (.seq (.ops [oN 74 4 4, oS 4 2 74])
  .ret))))))))), [.celln 2 4]⟩
def c11 : SFunc := ⟨15, (.seq (.ops [oI 4 0])
  (.seq (.ops [oM 6 0, oM 7 1, oB 8 .rem 6 7, oM 5 8])
  (.seq (.seq (.ops [oM 9 5, oJ 10 .lss 9 0])
  (.cond (.tmp 10)
  (.ops [oM 11 5, oM 12 1, oB 13 .add 11 12, oM 5 13])
  .skip))
  (.seq (.ops [oM 14 5, oM 4 14])
  .ret)))), [.tmp 4]⟩
theorem code11 (own : OwnT) (mode : FuncId → Nat) : (slimPrg Tryz.prog own mode).code 11 = some c11 := by kernel_rfl
-- thunk/natural.Eval
def c12_l0 : SCode :=
  (.seq (.seq (.ops [oM 22 11, oJ 23 .geq 22 0])
  (.cond (.tmp 23)
  .skip
  (.exit 0)))
  (.seq (.block 1 (.ops [oM 26 1, oM 27 11, oP 28 (.iaddr 1 (.tmp 26) (.tmp 27)), oL 29 28, oP 30 (.build [.int .i64 0, .str [], .nilp, .nilp, .int .i64 0, .str [], .nils, .nils, .nilp, .nils] [(0, 1, .lit (.int .i64 1)), (1, 1, .tmp 29)]), oC 31 24 ([.tmp 30]), oM 32 10, oP 33 (.build [.int .i64 0, .str [], .nilp, .nilp, .int .i64 0, .str [], .nils, .nils, .nilp, .nils] [(0, 1, .lit (.int .i64 5)), (2, 1, .tmp 31), (3, 1, .tmp 32)]), oC 34 24 ([.tmp 33]), oM 10 34]))
  (.ops [oM 24 11, oJ 25 .sub 24 1, oM 11 25])))
def c12 : SFunc := ⟨49, (.seq (.ops [oA 3 (.box 28 (.tmp 0)), oA 6 (.newc 34 [.int .i64 0, .str [], .int .i64 0]), oA 7 (.newc 3 [.int .i64 0]), oA 8 (.newc 3 [.int .i64 0])])
  (.seq (.ops [oM 12 2, oP 13 (.build [.int .i64 0, .int .i64 0, .int .i64 0] [(2, 1, .tmp 12)]), oA 14 (.box 64 (.tmp 13)), oP 15 (.build [.nilp, .nilp, .nils] [(0, 1, .tmp 14)]), oA 16 (.box 69 (.tmp 15)), oA 9 (.newc 61 [.nilp]), oS 1 9 16])
  (.seq (.ops [oP 17 (.build [.int .i64 0, .str [], .nilp, .nilp, .int .i64 0, .str [], .nils, .nils, .nilp, .nils] [(0, 1, .lit (.int .i64 3)), (1, 1, .lit (.str [40, 41]))]), oC 18 24 ([.tmp 17]), oM 10 18])
  (.seq (.seq (.ops [oM 19 1, oE 20 19, oJ 21 .sub 20 1, oM 11 21])
  (.block 0 (.loop c12_l0)))
  (.seq (.ops [.mk none none (.p (.nilchk (.lit .undef)))])
  (.seq (.draw [oL 36 9, oL 37 9, oN 38 4 3, oM 39 10, oP 40 (.build [.str [], .nilp, .nilp] [(0, 1, .lit (.str [105, 110, 112, 117, 116])), (1, 1, .tmp 39), (2, 1, .lit .nilp)]), oA 41 (.box 80 (.tmp 40))] [(oC 42 27 ([.tmp 37, .tmp 38, .tmp 41]), [oL 36 9], []), (oC 43 26 ([.tmp 36, .tmp 42]), [], [])])
  (.seq (.ops [oL 44 9, oK 45 44, oF 46 1 45, oC 47 28 ([.tmp 46]), oP 48 (.build [.int .i64 0, .str [], .int .i64 0] [(0, 1, .lit (.int .i64 1)), (1, 1, .tmp 47)]), oS 3 6 48, .mk none none (.w (.store 1 (.tmp 7) (.lit (.int .i64 0)))), .mk none none (.w (.store 1 (.tmp 8) (.lit (.int .i64 0))))])
  .ret))))))), [.celln 6 3, .cell1 7, .cell1 8]⟩
def c19 : SFunc := ⟨5, (.seq (.ops [oA 2 (.newc 28 [.int .i64 0, .str [], .nils, .nils])])
  (.seq (.ops [oM 3 0, oP 4 (.build [.int .i64 0, .str [], .nils, .nils] [(0, 1, .lit (.int .i64 5)), (1, 1, .tmp 3)]), oS 4 2 4])
  .ret)), [.celln 2 4]⟩
theorem code19 (own : OwnT) (mode : FuncId → Nat) : (slimPrg Tryz.prog own mode).code 19 = some c19 := by kernel_rfl
-- thunk/thunklaw5.size
def c24 : SFunc := ⟨6, (.seq (.ops [oA 1 (.box 75 (.tmp 0)), oP 2 (.move (.lit .nilp))])
  (.seq (.ops [oN 3 10 1, oP 4 (.build [.int .i64 0, .str [], .nilp, .nilp, .int .i64 0, .str [], .nils, .nils, .nilp, .nils, .int .i64 0, .str [], .nils, .nils, .nilp, .bool false, .bool false] [(0, 10, .tmp 3), (15, 1, .lit (.bool true))]), oA 5 (.box 110 (.tmp 4)), oM 2 5])
  .ret)), [.tmp 2]⟩
theorem code24 (own : OwnT) (mode : FuncId → Nat) : (slimPrg Tryz.prog own mode).code 24 = some c24 := by kernel_rfl
-- thunk/natural.Eval$1
def c25 : SFunc := ⟨28, (.seq (.draw [oL 7 0, oK 8 7, oF 9 0 8, oL 10 9, oK 11 10, oF 12 0 11, oL 13 12, oL 14 0, oK 15 14, oF 16 0 15, oL 17 16, oK 18 17, oF 19 1 18, oL 20 19] [(oS 1 1 13, [], []), (oS 1 2 20, [], [])])
  (.seq (.ops [.mk none none (.p (.nilchk (.lit .undef)))])
  (.block 0 (.seq (.ops [.mk none none (.p (.nilchk (.lit .undef)))])
  (.cond (.tmp 23)
  (.ops [oM 4 21])
  (.seq (.ops [oP 24 (.assertOk (.tmp 21) 76 (.agg [.int .i64 0, .str [], .int .i64 0])), oP 25 (.extract (.tmp 24) 1), oP 26 (.extract (.tmp 24) 0)])
  (.cond (.tmp 25)
  (.seq (.ops [oA 5 (.newc 76 [.int .i64 0, .str [], .int .i64 0]), oS 3 5 26])
  (.ops [oN 27 3 5, oS 3 3 27]))
  (.seq (.ops [oM 6 21])
  (.ops [oM 22 6, .mk none none (.panic (.tmp 22))]))))))))), []⟩
def c26_l0 : SCode :=
  (.block 2 (.seq (.ops [oM 20 0, oM 21 0, oF 22 2 3, oL 23 22, oC 24 46 ([.tmp 21, .tmp 23]), oC 25 26 ([.tmp 20, .tmp 24])])
  (.seq (.seq (.ops [oM 26 0, oF 27 3 3, oL 28 27, oC 29 46 ([.tmp 26, .tmp 28]), oS 10 3 29])
  (.seq (.ops [oF 30 0 3, oL 31 30, oJ 32 .neq 31 5])
  (.cond (.tmp 32)
  (.exit 1)
  .skip)))
  (.ops [oM 33 0, oC 34 45 ([.tmp 33, .lit (.str [32])])]))))
def c26 : SFunc := ⟨45, (.seq (.ops [oA 3 (.box 75 (.tmp 1))])
  (.seq (.block 0 (.seq (.ops [oF 5 0 3, oL 6 5, oJ 7 .lss 6 5, oM 4 7])
  (.cond (.tmp 4)
  (.seq (.ops [oM 8 0, oF 9 1 3, oL 10 9, oC 11 45 ([.tmp 8, .tmp 10])])
  .ret)
  (.seq (.ops [oF 13 0 3, oL 14 13, oJ 15 .eql 14 6, oM 12 15])
  (.cond (.tmp 12)
  (.seq (.ops [oM 16 0, oC 17 45 ([.tmp 16, .lit (.str [35, 60, 102, 117, 110, 99, 116, 105, 111, 110, 62])])])
  .ret)
  .skip)))))
  (.seq (.ops [oM 18 0, oC 19 45 ([.tmp 18, .lit (.str [40])])])
  (.seq (.block 1 (.loop c26_l0))
  (.seq (.seq (.ops [oF 35 0 3, oL 36 35, oJ 37 .neq 36 3])
  (.cond (.tmp 37)
  (.seq (.ops [oM 38 0, oC 39 45 ([.tmp 38, .lit (.str [32, 46, 32])])])
  (.ops [oM 40 0, oN 41 10 3, oC 42 26 ([.tmp 40, .tmp 41])]))
  .skip))
  (.ops [oM 43 0, oC 44 45 ([.tmp 43, .lit (.str [41])])])))))), []⟩
theorem code26 (own : OwnT) (mode : FuncId → Nat) : (slimPrg Tryz.prog own mode).code 26 = some c26 := by kernel_rfl
-- (*thunk/natural.work).reckon
def c27_l0 : SCode :=
  (.seq (.ops [oB 52 .lss 51 50])
  (.seq (.cond (.tmp 52)
  .skip
  (.exit 1))
  (.seq (.block 2 (.seq (.ops [oP 53 (.iaddr 4 (.tmp 49) (.tmp 51)), oN 54 4 53, oA 10 (.newc 28 [.int .i64 0, .str [], .nils, .nils]), oS 4 10 54])
  (.ops [oM 55 8, oN 56 4 10, oM 57 2, oC 58 49 ([.tmp 56, .tmp 57]), oA 59 (.buildS [.nilp] 1 [(0, 1, .tmp 58)]), oW 60 (.append 70 1 8 (.tmp 55) (.tmp 59)), oM 8 60])))
  (.ops [oJ 61 .add 51 1, oM 51 61]))))
def c27_l1 : SCode :=
  (.seq (.ops [oB 106 .lss 105 104])
  (.seq (.cond (.tmp 106)
  .skip
  (.exit 3))
  (.seq (.block 4 (.seq (.ops [oM 107 105, oP 108 (.iaddr 1 (.tmp 103) (.tmp 105)), oL 109 108, oM 14 107, oM 15 109])
  (.seq (.ops [oM 110 13, oF 111 3 4, oL 112 111, oM 113 14, oP 114 (.iaddr 4 (.tmp 112) (.tmp 113)), oN 115 4 114, oP 116 (.build [.int .i64 0, .str [], .nilp, .nilp, .int .i64 0, .str [], .nils, .nils, .nilp, .nils, .int .i64 0, .str [], .nils, .nils, .nilp, .bool false, .bool false] [(10, 4, .tmp 115)]), oA 117 (.box 110 (.tmp 116)), oA 118 (.buildS [.nilp] 1 [(0, 1, .tmp 117)]), oW 119 (.append 70 1 8 (.tmp 110) (.tmp 118)), oM 13 119])
  (.ops [oM 120 15, oM 121 13, oM 122 14, oP 123 (.iaddr 1 (.tmp 121) (.tmp 122)), oL 124 123, oM 125 2, oP 126 (.build [.str [], .nilp, .nilp] [(0, 1, .tmp 120), (1, 1, .tmp 124), (2, 1, .tmp 125)]), oA 127 (.box 80 (.tmp 126)), oM 2 127]))))
  (.ops [oJ 128 .add 105 1, oM 105 128]))))
def c27_l2 : SCode :=
  (.seq (.ops [oB 132 .lss 131 130])
  (.seq (.cond (.tmp 132)
  .skip
  (.exit 5))
  (.seq (.block 6 (.seq (.ops [oP 133 (.iaddr 1 (.tmp 129) (.tmp 131)), oL 134 133, oM 17 134])
  (.ops [oM 135 17, oM 136 2, oK 137 135, oF 138 14 137, oS 1 138 136])))
  (.ops [oJ 139 .add 131 1, oM 131 139]))))
def c27 : SFunc := ⟨171, (.seq (.ops [oA 4 (.box 28 (.tmp 1)), oA 6 (.newc 75 [.int .i64 0, .str [], .nilp, .nilp, .int .i64 0, .str [], .nils, .nils, .nilp, .nils])])
  (.seq (.ops [oM 18 0, oK 19 18, oF 20 0 19, oL 21 20, oC 22 47 ([.tmp 21])])
  (.seq (.seq (.ops [oF 23 0 4, oL 24 23])
  (.block 0 (.seq (.ops [oJ 26 .eql 24 5, oM 25 26])
  (.cond (.tmp 25)
  (.seq (.ops [oM 27 0, oM 28 2, oF 29 1 4, oL 30 29, oC 31 48 ([.tmp 28, .tmp 30]), oC 32 46 ([.tmp 27, .tmp 31]), oS 10 6 32])
  .ret)
  (.seq (.ops [oJ 34 .eql 24 6, oM 33 34])
  (.cond (.tmp 33)
  (.seq (.ops [oN 35 4 4, oM 36 2, oP 37 (.build [.int .i64 0, .str [], .nilp, .nilp, .int .i64 0, .str [], .nils, .nils, .nilp, .nils] [(0, 1, .lit (.int .i64 6)), (4, 4, .tmp 35), (8, 1, .tmp 36)]), oS 10 6 37])
  .ret)
  (.seq (.ops [oJ 39 .eql 24 7, oM 38 39])
  (.cond (.tmp 38)
  (.seq (.ops [oM 40 0, oF 41 3 4, oL 42 41, oP 43 (.iaddr 4 (.tmp 42) (.lit (.int .i64 0))), oN 44 4 43, oM 45 2, oC 46 27 ([.tmp 40, .tmp 44, .tmp 45]), oA 7 (.newc 75 [.int .i64 0, .str [], .nilp, .nilp, .int .i64 0, .str [], .nils, .nils, .nilp, .nils]), oS 10 7 46])
  (.seq (.ops [oP 8 (.move (.lit .nils))])
  (.seq (.seq (.ops [oF 47 3 4, oL 48 47, oP 49 (.sliceS 4 (.tmp 48) (some (.lit (.int .i64 1))) none none), oE 50 49, oI 51 0])
  (.block 1 (.loop c27_l0)))
  (.seq (.ops [oM 62 0, oN 63 10 7, oM 64 8, oC 65 50 ([.tmp 62, .tmp 63, .tmp 64]), oS 10 6 65])
  .ret))))
  (.seq (.ops [oJ 67 .eql 24 8, oM 66 67])
  (.cond (.tmp 66)
  (.seq (.seq (.ops [oM 68 0, oF 69 3 4, oL 70 69, oP 71 (.iaddr 4 (.tmp 70) (.lit (.int .i64 0))), oN 72 4 71, oM 73 2, oC 74 27 ([.tmp 68, .tmp 72, .tmp 73]), oA 11 (.newc 75 [.int .i64 0, .str [], .nilp, .nilp, .int .i64 0, .str [], .nils, .nils, .nilp, .nils]), oS 10 11 74])
  (.seq (.ops [oF 75 0 11, oL 76 75, oJ 77 .eql 76 2, oM 78 77, oG 79 78 true (.faddr 1 (.tmp 11)), oG 80 78 true (.load1 (.tmp 79)), oG 81 78 true (.bin .eql .none (.tmp 80) (.lit (.str [35, 102]))), oP 82 (.pick (.tmp 78) (.tmp 81) (.lit (.bool false)))])
  (.cond (.tmp 82)
  (.seq (.ops [oM 83 0, oF 84 3 4, oL 85 84, oP 86 (.iaddr 4 (.tmp 85) (.lit (.int .i64 2))), oN 87 4 86, oM 88 2, oC 89 27 ([.tmp 83, .tmp 87, .tmp 88]), oS 10 6 89])
  .ret)
  .skip)))
  (.seq (.ops [oM 90 0, oF 91 3 4, oL 92 91, oP 93 (.iaddr 4 (.tmp 92) (.lit (.int .i64 1))), oN 94 4 93, oM 95 2, oC 96 27 ([.tmp 90, .tmp 94, .tmp 95]), oS 10 6 96])
  .ret))
  (.seq (.ops [oJ 98 .eql 24 9, oM 97 98])
  (.cond (.tmp 97)
  (.seq (.ops [oF 99 2 4, oL 100 99, oE 101 100, oM 12 101])
  (.seq (.ops [oP 13 (.move (.lit .nils))])
  (.seq (.seq (.ops [oF 102 2 4, oL 103 102, oE 104 103, oI 105 0])
  (.block 3 (.loop c27_l1)))
  (.seq (.seq (.ops [oM 129 13, oE 130 129, oI 131 0])
  (.block 5 (.loop c27_l2)))
  (.seq (.ops [oM 140 0, oF 141 3 4, oL 142 141, oM 143 12, oP 144 (.iaddr 4 (.tmp 142) (.tmp 143)), oN 145 4 144, oM 146 2, oC 147 27 ([.tmp 140, .tmp 145, .tmp 146]), oS 10 6 147])
  .ret)))))
  (.seq (.ops [oJ 149 .eql 24 10, oM 148 149])
  (.cond (.tmp 148)
  (.seq (.seq (.ops [oF 150 3 4, oL 151 150, oE 152 151, oJ 153 .eql 152 2])
  (.cond (.tmp 153)
  (.seq (.ops [oM 154 0, oN 155 4 4, oM 156 2, oC 157 51 ([.tmp 154, .tmp 155, .tmp 156]), oS 10 6 157])
  .ret)
  .skip))
  (.seq (.draw [oM 158 0, oF 159 1 4, oL 160 159, oM 161 0, oF 162 3 4, oL 163 162, oP 164 (.iaddr 4 (.tmp 163) (.lit (.int .i64 0))), oN 165 4 164, oM 166 2] [(oC 167 27 ([.tmp 161, .tmp 165, .tmp 166]), [oL 160 159], []), (oC 168 52 ([.tmp 158, .tmp 160, .tmp 167]), [], []), (oS 10 6 168, [], [])])
  .ret))
  .skip))))))))))))))
  (.seq (.ops [oN 169 4 4, oC 170 53 ([.tmp 169]), oS 10 6 170])
  .ret)))), [.celln 6 10]⟩
theorem code27 (own : OwnT) (mode : FuncId → Nat) : (slimPrg Tryz.prog own mode).code 27 = some c27 := by kernel_rfl
-- (*strings.Builder).String
def c40_l0 : SCode :=
  (.seq (.seq (.ops [oM 6 4, oM 7 3, oE 8 7, oB 9 .lss 6 8])
  (.cond (.tmp 9)
  .skip
  (.exit 0)))
  (.seq (.block 1 (.seq (.ops [oM 12 3, oM 13 4, oP 14 (.iaddr 1 (.tmp 12) (.tmp 13)), oL 15 14, oM 16 0, oB 17 .eql 15 16])
  (.cond (.tmp 17)
  (.seq (.seq (.ops [oM 18 4, oJ 19 .lss 18 10])
  (.cond (.tmp 19)
  (.seq (.ops [oI 2 2])
  .ret)
  .skip))
  (.seq (.ops [oI 2 1])
  .ret))
  .skip)))
  (.ops [oM 10 4, oJ 11 .add 10 1, oM 4 11])))
def c40 : SFunc := ⟨20, (.seq (.ops [oI 2 0])
  (.seq (.ops [oA 5 (.buildS [.str [], .str [], .str [], .str [], .str [], .str [], .str [], .str [], .str [], .str [], .str [], .str [], .str [], .str [], .str [], .str [], .str [], .str []] 18 [(0, 1, .lit (.str [43])), (1, 1, .lit (.str [45])), (2, 1, .lit (.str [42])), (3, 1, .lit (.str [113, 117, 111, 116, 105, 101, 110, 116])), (4, 1, .lit (.str [114, 101, 109, 97, 105, 110, 100, 101, 114])), (5, 1, .lit (.str [60])), (6, 1, .lit (.str [61])), (7, 1, .lit (.str [101, 113, 63])), (8, 1, .lit (.str [99, 111, 110, 115])), (9, 1, .lit (.str [115, 101, 113])), (10, 1, .lit (.str [99, 97, 114])), (11, 1, .lit (.str [99, 100, 114])), (12, 1, .lit (.str [110, 117, 108, 108, 63])), (13, 1, .lit (.str [112, 97, 105, 114, 63])), (14, 1, .lit (.str [110, 111, 116])), (15, 1, .lit (.str [105, 110, 116, 101, 103, 101, 114, 63])), (16, 1, .lit (.str [115, 121, 109, 98, 111, 108, 63])), (17, 1, .lit (.str [101, 114, 114, 111, 114]))]), oM 3 5])
  (.seq (.seq (.ops [oI 4 0])
  (.block 0 (.loop c40_l0)))
  (.seq (.ops [oI 2 0])
  .ret)))), [.tmp 2]⟩
theorem code40 (own : OwnT) (mode : FuncId → Nat) : (slimPrg Tryz.prog own mode).code 40 = some c40 := by kernel_rfl
-- thunk/thunklaw5.digits
def c45 : SFunc := ⟨18, (.seq (.seq (.ops [oM 4 0, oK 5 4, oF 6 1 5, oC 7 76 ([.tmp 6]), oM 8 1, oP 9 (.lenT (.tmp 8)), oB 10 .add 7 9, oJ 11 .gtr 10 2000])
  (.cond (.tmp 11)
  (.ops [oC 12 77 ([.lit (.int .i64 7), .lit (.str [])])])
  .skip))
  (.ops [oM 13 0, oK 14 13, oF 15 1 14, oM 16 1, oC 17 78 ([.tmp 15, .tmp 16])])), []⟩
theorem code45 (own : OwnT) (mode : FuncId → Nat) : (slimPrg Tryz.prog own mode).code 45 = some c45 := by kernel_rfl
-- (*thunk/natural.work).force
def c46 : SFunc := ⟨54, (.seq (.ops [oA 4 (.newc 75 [.int .i64 0, .str [], .nilp, .nilp, .int .i64 0, .str [], .nils, .nils, .nilp, .nils])])
  (.seq (.seq (.ops [oM 5 1, oK 6 5, oF 7 15 6, oL 8 7])
  (.cond (.tmp 8)
  (.seq (.ops [oM 9 1, oK 10 9, oF 11 0 10, oN 12 10 11, oS 10 4 12])
  .ret)
  .skip))
  (.seq (.seq (.ops [oM 13 1, oK 14 13, oF 15 16 14, oL 16 15])
  (.cond (.tmp 16)
  (.ops [oC 17 77 ([.lit (.int .i64 3), .lit (.str [])])])
  .skip))
  (.seq (.ops [oM 18 0, oK 19 18, oF 20 0 19, oL 21 20, oK 22 21, oF 23 1 22, oL 24 23, oJ 25 .add 24 1, oK 26 21, oF 27 1 26, oS 1 27 25])
  (.seq (.ops [oM 28 1, oK 29 28, oF 30 16 29, .mk none none (.w (.store 1 (.tmp 30) (.lit (.bool true))))])
  (.seq (.draw [oM 31 1, oM 32 0, oM 33 1, oK 34 33, oF 35 10 34, oN 36 4 35, oM 37 1, oK 38 37, oF 39 14 38, oL 40 39] [(oC 41 27 ([.tmp 32, .tmp 36, .tmp 40]), [], [oK 42 31, oF 43 0 42]), (oS 10 43 41, [], [])])
  (.seq (.ops [oM 44 1, oM 45 1, oK 46 44, oF 47 15 46, .mk none none (.w (.store 1 (.tmp 47) (.lit (.bool true)))), oK 48 45, oF 49 16 48, .mk none none (.w (.store 1 (.tmp 49) (.lit (.bool false))))])
  (.seq (.ops [oM 50 1, oK 51 50, oF 52 0 51, oN 53 10 52, oS 10 4 53])
  .ret)))))))), [.celln 4 10]⟩
theorem code46 (own : OwnT) (mode : FuncId → Nat) : (slimPrg Tryz.prog own mode).code 46 = some c46 := by kernel_rfl
-- (*thunk/natural.count).step
def c47 : SFunc := ⟨19, (.seq (.ops [oM 2 0, oK 3 2, oF 4 0 3, oL 5 4, oJ 6 .add 5 1, oK 7 2, oF 8 0 7, oS 1 8 6])
  (.seq (.draw [oM 9 0, oK 10 9, oF 11 0 10, oL 12 11, oM 13 0, oK 14 13, oF 15 2 14, oL 16 15, oB 17 .gtr 12 16] [])
  (.cond (.tmp 17)
  (.ops [oC 18 77 ([.lit (.int .i64 6), .lit (.str [])])])
  .skip))), []⟩
theorem code47 (own : OwnT) (mode : FuncId → Nat) : (slimPrg Tryz.prog own mode).code 47 = some c47 := by kernel_rfl
-- (*thunk/natural.env).find
def c48_l0 : SCode :=
  (.seq (.seq (.ops [oM 5 0, oP 6 (.bin .neq .ptr (.tmp 5) (.lit .nilp))])
  (.cond (.tmp 6)
  .skip
  (.exit 0)))
  (.seq (.block 1 (.seq (.ops [oM 11 0, oK 12 11, oF 13 0 12, oL 14 13, oM 15 1, oB 16 .eql 14 15])
  (.cond (.tmp 16)
  (.seq (.ops [oM 17 0, oK 18 17, oF 19 1 18, oL 20 19, oM 4 20])
  .ret)
  .skip)))
  (.ops [oM 7 0, oK 8 7, oF 9 2 8, oL 10 9, oM 0 10])))
def c48 : SFunc := ⟨24, (.seq (.ops [oP 4 (.move (.lit .nilp))])
  (.seq (.block 0 (.loop c48_l0))
  (.seq (.ops [oP 21 (.build [.int .i64 0, .str [], .nilp, .nilp, .int .i64 0, .str [], .nils, .nils, .nilp, .nils] [(0, 1, .lit (.int .i64 3)), (1, 1, .lit (.str [40, 41]))]), oP 22 (.build [.int .i64 0, .str [], .nilp, .nilp, .int .i64 0, .str [], .nils, .nils, .nilp, .nils, .int .i64 0, .str [], .nils, .nils, .nilp, .bool false, .bool false] [(0, 10, .tmp 21), (15, 1, .lit (.bool true))]), oA 23 (.box 110 (.tmp 22)), oM 4 23])
  .ret))), [.tmp 4]⟩
theorem code48 (own : OwnT) (mode : FuncId → Nat) : (slimPrg Tryz.prog own mode).code 48 = some c48 := by kernel_rfl
-- thunk/natural.argument
def c49 : SFunc := ⟨25, (.seq (.ops [oA 2 (.box 28 (.tmp 0)), oP 4 (.move (.lit .nilp))])
  (.seq (.seq (.ops [oF 5 0 2, oL 6 5])
  (.block 0 (.seq (.ops [oJ 8 .eql 6 5, oM 7 8])
  (.cond (.tmp 7)
  (.seq (.ops [oM 9 1, oF 10 1 2, oL 11 10, oC 12 48 ([.tmp 9, .tmp 11]), oM 4 12])
  .ret)
  (.seq (.seq (.ops [oJ 14 .eql 6 1, oM 13 14])
  (.cond (.tmp 13)
  .skip
  (.seq (.ops [oJ 15 .eql 6 2, oM 13 15])
  (.cond (.tmp 13)
  .skip
  (.seq (.ops [oJ 16 .eql 6 3, oM 13 16])
  (.cond (.tmp 13)
  .skip
  (.ops [oJ 17 .eql 6 4, oM 13 17])))))))
  (.cond (.tmp 13)
  (.seq (.ops [oN 18 4 2, oC 19 53 ([.tmp 18]), oC 20 24 ([.tmp 19]), oM 4 20])
  .ret)
  .skip))))))
  (.seq (.ops [oN 21 4 2, oM 22 1, oP 23 (.build [.int .i64 0, .str [], .nilp, .nilp, .int .i64 0, .str [], .nils, .nils, .nilp, .nils, .int .i64 0, .str [], .nils, .nils, .nilp, .bool false, .bool false] [(10, 4, .tmp 21), (14, 1, .tmp 22)]), oA 24 (.box 110 (.tmp 23)), oM 4 24])
  .ret))), [.tmp 4]⟩
theorem code49 (own : OwnT) (mode : FuncId → Nat) : (slimPrg Tryz.prog own mode).code 49 = some c49 := by kernel_rfl
-- (*thunk/natural.work).apply
def c50_l0 : SCode :=
  (.seq (.ops [oB 54 .lss 53 52])
  (.seq (.cond (.tmp 54)
  .skip
  (.exit 2))
  (.seq (.block 3 (.seq (.ops [oM 55 53, oP 56 (.iaddr 1 (.tmp 51) (.tmp 53)), oL 57 56, oM 10 55, oM 11 57])
  (.ops [oM 58 11, oM 59 8, oM 60 10, oP 61 (.iaddr 1 (.tmp 59) (.tmp 60)), oL 62 61, oM 63 9, oP 64 (.build [.str [], .nilp, .nilp] [(0, 1, .tmp 58), (1, 1, .tmp 62), (2, 1, .tmp 63)]), oA 65 (.box 80 (.tmp 64)), oM 9 65])))
  (.ops [oJ 66 .add 53 1, oM 53 66]))))
def c50_l1 : SCode :=
  (.seq (.seq (.ops [oM 12 2, oE 13 12, oJ 14 .gtr 13 0])
  (.cond (.tmp 14)
  .skip
  (.exit 0)))
  (.block 1 (.seq (.seq (.ops [oF 15 0 4, oL 16 15, oJ 17 .neq 16 6])
  (.cond (.tmp 17)
  (.ops [oC 18 77 ([.lit (.int .i64 2), .lit (.str [97, 112, 112, 108, 121])])])
  .skip))
  (.seq (.ops [oF 19 4 4, oF 20 2 19, oL 21 20, oE 22 21, oF 23 9 4, oL 24 23, oE 25 24, oB 26 .sub 22 25, oM 7 26])
  (.seq (.draw [oF 27 9 4, oL 28 27, oM 30 2, oM 31 7, oM 32 2, oE 33 32, oP 34 (.min2 (.tmp 31) (.tmp 33)), oP 35 (.sliceS 1 (.tmp 30) none (some (.tmp 34)) none)] [(oW 29 (.append 70 1 8 (.lit .nils) (.tmp 28)), [], []), (oW 36 (.append 70 1 8 (.tmp 29) (.tmp 35)), [], [oM 8 36])])
  (.seq (.seq (.ops [oM 37 2, oE 38 37, oM 39 7, oB 40 .lss 38 39])
  (.cond (.tmp 40)
  (.seq (.ops [oM 41 8, oF 42 9 4, oS 1 42 41])
  (.seq (.ops [oN 43 10 4, oS 10 6 43])
  .ret))
  .skip))
  (.seq (.ops [oM 44 2, oM 45 7, oP 46 (.sliceS 1 (.tmp 44) (some (.tmp 45)) none none), oM 2 46])
  (.seq (.ops [oF 47 8 4, oL 48 47, oM 9 48])
  (.seq (.seq (.ops [oF 49 4 4, oF 50 2 49, oL 51 50, oE 52 51, oI 53 0])
  (.block 2 (.loop c50_l0)))
  (.ops [oM 67 0, oF 68 4 4, oF 69 3 68, oL 70 69, oP 71 (.iaddr 4 (.tmp 70) (.lit (.int .i64 0))), oN 72 4 71, oM 73 9, oC 74 27 ([.tmp 67, .tmp 72, .tmp 73]), oS 10 4 74]))))))))))
def c50 : SFunc := ⟨76, (.seq (.ops [oA 4 (.box 75 (.tmp 1)), oA 6 (.newc 75 [.int .i64 0, .str [], .nilp, .nilp, .int .i64 0, .str [], .nils, .nils, .nilp, .nils])])
  (.seq (.block 0 (.loop c50_l1))
  (.seq (.ops [oN 75 10 4, oS 10 6 75])
  .ret))), [.celln 6 10]⟩
theorem code50 (own : OwnT) (mode : FuncId → Nat) : (slimPrg Tryz.prog own mode).code 50 = some c50 := by kernel_rfl
-- (*thunk/natural.work).two
def c51_l0 : SCode :=
  (.seq (.ops [oJ 80 .lss 79 2])
  (.seq (.cond (.tmp 80)
  .skip
  (.exit 1))
  (.seq (.block 2 (.seq (.ops [oM 81 79, oM 10 81])
  (.seq (.ops [oM 82 10, oM 83 0, oF 84 3 4, oL 85 84, oM 86 10, oP 87 (.iaddr 4 (.tmp 85) (.tmp 86)), oN 88 4 87, oM 89 2, oC 90 27 ([.tmp 83, .tmp 88, .tmp 89]), oP 91 (.iaddrA 2 10 (.tmp 9) (.tmp 82)), oS 10 91 90])
  (.seq (.ops [oM 92 10, oP 93 (.iaddrA 2 10 (.tmp 9) (.tmp 92)), oF 94 0 93, oL 95 94, oJ 96 .neq 95 1])
  (.cond (.tmp 96)
  (.ops [oC 97 77 ([.lit (.int .i64 2), .lit (.str [110, 117, 109, 98, 101, 114])])])
  .skip)))))
  (.ops [oJ 98 .add 79 1, oM 79 98]))))
def c51 : SFunc := ⟨108, (.seq (.ops [oA 4 (.box 28 (.tmp 1)), oA 6 (.newc 75 [.int .i64 0, .str [], .nilp, .nilp, .int .i64 0, .str [], .nils, .nils, .nilp, .nils])])
  (.seq (.seq (.ops [oF 11 1 4, oL 12 11])
  (.block 0 (.seq (.ops [oP 14 (.bin .eql .none (.tmp 12) (.lit (.str [99, 111, 110, 115]))), oM 13 14])
  (.cond (.tmp 13)
  (.seq (.draw [oF 15 3 4, oL 16 15, oP 17 (.iaddr 4 (.tmp 16) (.lit (.int .i64 0))), oN 18 4 17, oM 19 2, oF 21 3 4, oL 22 21, oP 23 (.iaddr 4 (.tmp 22) (.lit (.int .i64 1))), oN 24 4 23, oM 25 2] [(oC 20 49 ([.tmp 18, .tmp 19]), [oL 22 21, oN 24 4 23], []), (oC 26 49 ([.tmp 24, .tmp 25]), [], [oP 27 (.build [.int .i64 0, .str [], .nilp, .nilp, .int .i64 0, .str [], .nils, .nils, .nilp, .nils] [(0, 1, .lit (.int .i64 5)), (2, 1, .tmp 20), (3, 1, .tmp 26)])]), (oS 10 6 27, [], [])])
  .ret)
  (.seq (.ops [oP 29 (.bin .eql .none (.tmp 12) (.lit (.str [115, 101, 113]))), oM 28 29])
  (.cond (.tmp 28)
  (.seq (.ops [oM 30 0, oF 31 3 4, oL 32 31, oP 33 (.iaddr 4 (.tmp 32) (.lit (.int .i64 0))), oN 34 4 33, oM 35 2, oC 36 27 ([.tmp 30, .tmp 34, .tmp 35])])
  (.seq (.ops [oM 37 0, oF 38 3 4, oL 39 38, oP 40 (.iaddr 4 (.tmp 39) (.lit (.int .i64 1))), oN 41 4 40, oM 42 2, oC 43 27 ([.tmp 37, .tmp 41, .tmp 42]), oS 10 6 43])
  .ret))
  (.seq (.ops [oP 45 (.bin .eql .none (.tmp 12) (.lit (.str [101, 113, 63]))), oM 44 45])
  (.cond (.tmp 44)
  (.seq (.ops [oM 46 0, oF 47 3 4, oL 48 47, oP 49 (.iaddr 4 (.tmp 48) (.lit (.int .i64 0))), oN 50 4 49, oM 51 2, oC 52 27 ([.tmp 46, .tmp 50, .tmp 51]), oP 53 (.build [.int .i64 0, .str [], .nilp, .nilp, .int .i64 0, .str [], .nils, .nils, .nilp, .nils] []), oA 7 (.newc 75 [.int .i64 0, .str [], .nilp, .nilp, .int .i64 0, .str [], .nils, .nils, .nilp, .nils]), oA 8 (.newc 75 [.int .i64 0, .str [], .nilp, .nilp, .int .i64 0, .str [], .nils, .nils, .nilp, .nils]), oS 10 7 52, oS 10 8 53])
  (.seq (.ops [oM 54 0, oF 55 3 4, oL 56 55, oP 57 (.iaddr 4 (.tmp 56) (.lit (.int .i64 1))), oN 58 4 57, oM 59 2, oC 60 27 ([.tmp 54, .tmp 58, .tmp 59]), oS 10 8 60])
  (.seq (.ops [oF 61 0 7, oL 62 61, oJ 63 .lss 62 5, oM 64 63, oG 65 64 true (.faddr 0 (.tmp 7)), oG 66 64 true (.load1 (.tmp 65)), oG 67 64 true (.faddr 0 (.tmp 8)), oG 68 64 true (.load1 (.tmp 67)), oG 69 64 true (.bin .eql .none (.tmp 66) (.tmp 68)), oP 70 (.pick (.tmp 64) (.tmp 69) (.lit (.bool false))), oM 71 70, oG 72 71 true (.faddr 1 (.tmp 7)), oG 73 71 true (.load1 (.tmp 72)), oG 74 71 true (.faddr 1 (.tmp 8)), oG 75 71 true (.load1 (.tmp 74)), oG 76 71 true (.bin .eql .none (.tmp 73) (.tmp 75)), oP 77 (.pick (.tmp 71) (.tmp 76) (.lit (.bool false))), oC 78 79 ([.tmp 77]), oS 10 6 78])
  .ret)))
  .skip))))))))
  (.seq (.ops [oA 9 (.newc 162 [.int .i64 0, .str [], .nilp, .nilp, .int .i64 0, .str [], .nils, .nils, .nilp, .nils, .int .i64 0, .str [], .nilp, .nilp, .int .i64 0, .str [], .nils, .nils, .nilp, .nils])])
  (.seq (.seq (.ops [oI 79 0])
  (.block 1 (.loop c51_l0)))
  (.seq (.ops [oF 99 1 4, oL 100 99, oP 101 (.iaddrA 2 10 (.tmp 9) (.lit (.int .i64 0))), oF 102 1 101, oL 103 102, oP 104 (.iaddrA 2 10 (.tmp 9) (.lit (.int .i64 1))), oF 105 1 104, oL 106 105, oC 107 80 ([.tmp 100, .tmp 103, .tmp 106]), oS 10 6 107])
  .ret))))), [.celln 6 10]⟩
theorem code51 (own : OwnT) (mode : FuncId → Nat) : (slimPrg Tryz.prog own mode).code 51 = some c51 := by kernel_rfl
-- (*thunk/natural.work).one
def c52 : SFunc := ⟨69, (.seq (.ops [oA 5 (.box 75 (.tmp 2)), oA 6 (.newc 75 [.int .i64 0, .str [], .nilp, .nilp, .int .i64 0, .str [], .nils, .nils, .nilp, .nils])])
  (.seq (.seq (.ops [oM 7 1])
  (.block 0 (.seq (.seq (.ops [oP 9 (.bin .eql .none (.tmp 7) (.lit (.str [99, 97, 114]))), oM 8 9])
  (.cond (.tmp 8)
  .skip
  (.ops [oP 10 (.bin .eql .none (.tmp 7) (.lit (.str [99, 100, 114]))), oM 8 10])))
  (.cond (.tmp 8)
  (.seq (.seq (.ops [oF 11 0 5, oL 12 11, oJ 13 .neq 12 5])
  (.cond (.tmp 13)
  (.ops [oC 14 77 ([.lit (.int .i64 2), .lit (.str [112, 97, 105, 114])])])
  .skip))
  (.seq (.seq (.ops [oM 15 1, oP 16 (.bin .eql .none (.tmp 15) (.lit (.str [99, 97, 114])))])
  (.cond (.tmp 16)
  (.seq (.ops [oM 17 0, oF 18 2 5, oL 19 18, oC 20 46 ([.tmp 17, .tmp 19]), oS 10 6 20])
  .ret)
  .skip))
  (.seq (.ops [oM 21 0, oF 22 3 5, oL 23 22, oC 24 46 ([.tmp 21, .tmp 23]), oS 10 6 24])
  .ret)))
  (.seq (.ops [oP 26 (.bin .eql .none (.tmp 7) (.lit (.str [110, 117, 108, 108, 63]))), oM 25 26])
  (.cond (.tmp 25)
  (.seq (.ops [oF 27 0 5, oL 28 27, oJ 29 .eql 28 3, oC 30 79 ([.tmp 29]), oS 10 6 30])
  .ret)
  (.seq (.ops [oP 32 (.bin .eql .none (.tmp 7) (.lit (.str [112, 97, 105, 114, 63]))), oM 31 32])
  (.cond (.tmp 31)
  (.seq (.ops [oF 33 0 5, oL 34 33, oJ 35 .eql 34 5, oC 36 79 ([.tmp 35]), oS 10 6 36])
  .ret)
  (.seq (.ops [oP 38 (.bin .eql .none (.tmp 7) (.lit (.str [105, 110, 116, 101, 103, 101, 114, 63]))), oM 37 38])
  (.cond (.tmp 37)
  (.seq (.ops [oF 39 0 5, oL 40 39, oJ 41 .eql 40 1, oC 42 79 ([.tmp 41]), oS 10 6 42])
  .ret)
  (.seq (.ops [oP 44 (.bin .eql .none (.tmp 7) (.lit (.str [115, 121, 109, 98, 111, 108, 63]))), oM 43 44])
  (.cond (.tmp 43)
  (.seq (.ops [oF 45 0 5, oL 46 45, oJ 47 .eql 46 4, oC 48 79 ([.tmp 47]), oS 10 6 48])
  .ret)
  (.seq (.ops [oP 50 (.bin .eql .none (.tmp 7) (.lit (.str [110, 111, 116]))), oM 49 50])
  (.cond (.tmp 49)
  (.seq (.ops [oF 51 0 5, oL 52 51, oJ 53 .eql 52 2, oM 54 53, oG 55 54 true (.faddr 1 (.tmp 5)), oG 56 54 true (.load1 (.tmp 55)), oG 57 54 true (.bin .eql .none (.tmp 56) (.lit (.str [35, 102]))), oP 58 (.pick (.tmp 54) (.tmp 57) (.lit (.bool false))), oC 59 79 ([.tmp 58]), oS 10 6 59])
  .ret)
  .skip))))))))))))))
  (.seq (.seq (.ops [oF 60 0 5, oL 61 60, oJ 62 .lss 61 5])
  (.cond (.tmp 62)
  (.ops [oF 63 1 5, oL 64 63, oP 65 (.bin .add .none (.lit (.str [101, 114, 114, 111, 114, 32])) (.tmp 64)), oC 66 77 ([.lit (.int .i64 2), .tmp 65])])
  .skip))
  (.seq (.ops [oC 67 77 ([.lit (.int .i64 2), .lit (.str [101, 114, 114, 111, 114])])])
  (.seq (.ops [oP 68 (.build [.int .i64 0, .str [], .nilp, .nilp, .int .i64 0, .str [], .nils, .nils, .nilp, .nils] []), oS 10 6 68])
  .ret))))), [.celln 6 10]⟩
theorem code52 (own : OwnT) (mode : FuncId → Nat) : (slimPrg Tryz.prog own mode).code 52 = some c52 := by kernel_rfl
-- thunk/natural.constant
def c53 : SFunc := ⟨21, (.seq (.ops [oA 1 (.box 28 (.tmp 0)), oA 2 (.newc 75 [.int .i64 0, .str [], .nilp, .nilp, .int .i64 0, .str [], .nils, .nils, .nilp, .nils])])
  (.seq (.seq (.ops [oF 3 0 1, oL 4 3])
  (.block 0 (.seq (.ops [oJ 6 .eql 4 1, oM 5 6])
  (.cond (.tmp 5)
  (.seq (.ops [oF 7 1 1, oL 8 7, oP 9 (.build [.int .i64 0, .str [], .nilp, .nilp, .int .i64 0, .str [], .nils, .nils, .nilp, .nils] [(0, 1, .lit (.int .i64 1)), (1, 1, .tmp 8)]), oS 10 2 9])
  .ret)
  (.seq (.ops [oJ 11 .eql 4 2, oM 10 11])
  (.cond (.tmp 10)
  (.seq (.ops [oF 12 1 1, oL 13 12, oP 14 (.build [.int .i64 0, .str [], .nilp, .nilp, .int .i64 0, .str [], .nils, .nils, .nilp, .nils] [(0, 1, .lit (.int .i64 2)), (1, 1, .tmp 13)]), oS 10 2 14])
  .ret)
  (.seq (.ops [oJ 16 .eql 4 4, oM 15 16])
  (.cond (.tmp 15)
  (.seq (.ops [oF 17 1 1, oL 18 17, oP 19 (.build [.int .i64 0, .str [], .nilp, .nilp, .int .i64 0, .str [], .nils, .nils, .nilp, .nils] [(0, 1, .lit (.int .i64 4)), (1, 1, .tmp 18)]), oS 10 2 19])
  .ret)
  .skip))))))))
  (.seq (.ops [oP 20 (.build [.int .i64 0, .str [], .nilp, .nilp, .int .i64 0, .str [], .nils, .nils, .nilp, .nils] [(0, 1, .lit (.int .i64 3)), (1, 1, .lit (.str [40, 41]))]), oS 10 2 20])
  .ret))), [.celln 2 10]⟩
theorem code53 (own : OwnT) (mode : FuncId → Nat) : (slimPrg Tryz.prog own mode).code 53 = some c53 := by kernel_rfl
-- thunk/thunklaw1.within
def c76 : SFunc := ⟨8, (.seq (.ops [oI 2 0])
  (.seq (.ops [oM 3 0, oK 4 3, oF 5 1 4, oL 6 5, oE 7 6, oM 2 7])
  .ret)), [.tmp 2]⟩
theorem code76 (own : OwnT) (mode : FuncId → Nat) : (slimPrg Tryz.prog own mode).code 76 = some c76 := by kernel_rfl
-- thunk/natural.stop
def c77 : SFunc := ⟨8, (.ops [oM 4 0, oM 5 1, oP 6 (.build [.int .i64 0, .str [], .int .i64 0] [(0, 1, .tmp 4), (1, 1, .tmp 5)]), oP 7 (.mkIface 76 (.tmp 6)), .mk none none (.panic (.tmp 7))]), []⟩
theorem code77 (own : OwnT) (mode : FuncId → Nat) : (slimPrg Tryz.prog own mode).code 77 = some c77 := by kernel_rfl
-- (*strings.Builder).WriteString
def c78 : SFunc := ⟨19, (.seq (.ops [oI 4 0, oP 5 (.move (.lit .nili))])
  (.seq (.ops [oM 6 0, oC 7 95 ([.tmp 6])])
  (.seq (.ops [oM 8 0, oM 9 0, oK 10 9, oF 11 1 10, oL 12 11, oM 13 1, oW 14 (.append 5 1 1 (.tmp 12) (.tmp 13)), oK 15 8, oF 16 1 15, oS 1 16 14])
  (.seq (.ops [oM 17 1, oP 18 (.lenT (.tmp 17)), oM 4 18, oP 5 (.move (.lit .nili))])
  .ret)))), [.tmp 4, .tmp 5]⟩
theorem code78 (own : OwnT) (mode : FuncId → Nat) : (slimPrg Tryz.prog own mode).code 78 = some c78 := by kernel_rfl
-- thunk/natural.is
def c79 : SFunc := ⟨6, (.seq (.ops [oA 2 (.newc 75 [.int .i64 0, .str [], .nilp, .nilp, .int .i64 0, .str [], .nils, .nils, .nilp, .nils])])
  (.seq (.seq (.ops [oM 3 0])
  (.cond (.tmp 3)
  (.seq (.ops [oP 4 (.build [.int .i64 0, .str [], .nilp, .nilp, .int .i64 0, .str [], .nils, .nils, .nilp, .nils] [(0, 1, .lit (.int .i64 2)), (1, 1, .lit (.str [35, 116]))]), oS 10 2 4])
  .ret)
  .skip))
  (.seq (.ops [oP 5 (.build [.int .i64 0, .str [], .nilp, .nilp, .int .i64 0, .str [], .nils, .nils, .nilp, .nils] [(0, 1, .lit (.int .i64 2)), (1, 1, .lit (.str [35, 102]))]), oS 10 2 5])
  .ret))), [.celln 2 10]⟩
theorem code79 (own : OwnT) (mode : FuncId → Nat) : (slimPrg Tryz.prog own mode).code 79 = some c79 := by kernel_rfl
-- thunk/natural.numbers
def c80 : SFunc := ⟨70, (.seq (.ops [oA 6 (.newc 75 [.int .i64 0, .str [], .nilp, .nilp, .int .i64 0, .str [], .nils, .nils, .nilp, .nils])])
  (.seq (.ops [oP 7 (.move (.lit (.str []))), oP 8 (.move (.lit (.bool true)))])
  (.seq (.seq (.ops [oM 12 0])
  (.block 0 (.seq (.ops [oP 28 (.bin .eql .none (.tmp 12) (.lit (.str [43]))), oM 27 28])
  (.cond (.tmp 27)
  (.ops [oM 30 1, oM 31 2, oC 32 96 ([.tmp 30, .tmp 31]), oM 29 32, oP 33 (.extract (.tmp 29) 0), oP 34 (.extract (.tmp 29) 1), oM 7 33, oM 8 34])
  (.seq (.ops [oP 36 (.bin .eql .none (.tmp 12) (.lit (.str [45]))), oM 35 36])
  (.cond (.tmp 35)
  (.ops [oM 38 1, oM 39 2, oC 40 97 ([.tmp 38, .tmp 39]), oM 37 40, oP 41 (.extract (.tmp 37) 0), oP 42 (.extract (.tmp 37) 1), oM 7 41, oM 8 42])
  (.seq (.ops [oP 44 (.bin .eql .none (.tmp 12) (.lit (.str [42]))), oM 43 44])
  (.cond (.tmp 43)
  (.ops [oM 46 1, oM 47 2, oC 48 98 ([.tmp 46, .tmp 47]), oM 45 48, oP 49 (.extract (.tmp 45) 0), oP 50 (.extract (.tmp 45) 1), oM 7 49, oM 8 50])
  (.seq (.ops [oP 52 (.bin .eql .none (.tmp 12) (.lit (.str [60]))), oM 51 52])
  (.cond (.tmp 51)
  (.seq (.ops [oM 53 1, oM 54 2, oC 55 99 ([.tmp 53, .tmp 54]), oJ 56 .lss 55 0, oC 57 79 ([.tmp 56]), oS 10 6 57])
  .ret)
  (.seq (.ops [oP 59 (.bin .eql .none (.tmp 12) (.lit (.str [61]))), oM 58 59])
  (.cond (.tmp 58)
  (.seq (.ops [oM 60 1, oM 61 2, oC 62 99 ([.tmp 60, .tmp 61]), oJ 63 .eql 62 0, oC 64 79 ([.tmp 63]), oS 10 6 64])
  .ret)
  (.seq (.ops [oM 14 1, oM 15 2, oC 16 100 ([.tmp 14, .tmp 15]), oM 13 16, oP 17 (.extract (.tmp 13) 0), oP 18 (.extract (.tmp 13) 1), oP 19 (.extract (.tmp 13) 2), oM 9 17, oM 10 18, oM 11 19])
  (.seq (.seq (.ops [oM 20 11, oP 21 (.not (.tmp 20))])
  (.cond (.tmp 21)
  (.ops [oC 22 77 ([.lit (.int .i64 2), .lit (.str [122, 101, 114, 111])])])
  .skip))
  (.seq (.ops [oM 23 9, oM 7 23])
  (.seq (.ops [oM 24 0, oP 25 (.bin .eql .none (.tmp 24) (.lit (.str [114, 101, 109, 97, 105, 110, 100, 101, 114])))])
  (.cond (.tmp 25)
  (.ops [oM 26 10, oM 7 26])
  .skip)))))))))))))))))
  (.seq (.seq (.ops [oM 65 8, oP 66 (.not (.tmp 65))])
  (.cond (.tmp 66)
  (.ops [oC 67 77 ([.lit (.int .i64 7), .lit (.str [])])])
  .skip))
  (.seq (.ops [oM 68 7, oP 69 (.build [.int .i64 0, .str [], .nilp, .nilp, .int .i64 0, .str [], .nils, .nils, .nilp, .nils] [(0, 1, .lit (.int .i64 1)), (1, 1, .tmp 68)]), oS 10 6 69])
  .ret))))), [.celln 6 10]⟩
theorem code80 (own : OwnT) (mode : FuncId → Nat) : (slimPrg Tryz.prog own mode).code 80 = some c80 := by kernel_rfl
-- (*strings.Builder).copyCheck
def c96 : SFunc := ⟨14, (.seq (.ops [oP 4 (.move (.lit (.str []))), oP 5 (.move (.lit (.bool false)))])
  (.seq (.ops [oM 6 0, oC 7 120 ([.tmp 6]), oM 8 1, oC 9 120 ([.tmp 8]), oC 10 119 ([.tmp 7, .tmp 9]), oC 11 121 ([.tmp 10]), oP 12 (.extract (.tmp 11) 0), oP 13 (.extract (.tmp 11) 1), oM 4 12, oM 5 13])
  .ret)), [.tmp 4, .tmp 5]⟩
theorem code96 (own : OwnT) (mode : FuncId → Nat) : (slimPrg Tryz.prog own mode).code 96 = some c96 := by kernel_rfl
-- thunk/big.Sub
def c97 : SFunc := ⟨20, (.seq (.ops [oP 4 (.move (.lit (.str []))), oP 5 (.move (.lit (.bool false)))])
  (.seq (.ops [oM 7 1, oC 8 120 ([.tmp 7]), oA 6 (.newc 204 [.bool false, .nils]), oS 2 6 8])
  (.seq (.ops [oF 9 0 6, oL 10 9, oP 11 (.not (.tmp 10)), oF 12 0 6, oS 1 12 11])
  (.seq (.draw [oM 13 0, oN 15 2 6] [(oC 14 120 ([.tmp 13]), [oN 15 2 6], []), (oC 16 119 ([.tmp 14, .tmp 15]), [], []), (oC 17 121 ([.tmp 16]), [], [oP 18 (.extract (.tmp 17) 0), oP 19 (.extract (.tmp 17) 1), oM 4 18, oM 5 19])])
  .ret)))), [.tmp 4, .tmp 5]⟩
theorem code97 (own : OwnT) (mode : FuncId → Nat) : (slimPrg Tryz.prog own mode).code 97 = some c97 := by kernel_rfl
-- thunk/big.Mul
def c98_l0 : SCode :=
  (.seq (.seq (.ops [oM 35 12, oF 36 1 7, oL 37 36, oE 38 37, oB 39 .lss 35 38, oM 40 39, oG 41 40 false (.move (.tmp 11)), oG 42 40 false (.bin .gtr .none (.tmp 41) (.lit (.int .i64 0))), oP 43 (.pick (.tmp 40) (.lit (.bool true)) (.tmp 42))])
  (.cond (.tmp 43)
  .skip
  (.exit 2)))
  (.seq (.block 3 (.seq (.draw [oM 46 8, oM 47 9, oM 48 12, oB 49 .add 47 48, oP 50 (.iaddr 1 (.tmp 46) (.tmp 49)), oL 51 50, oM 52 10, oF 53 1 7, oL 54 53, oM 55 12, oM 59 11] [(oC 56 122 ([.tmp 54, .tmp 55]), [oL 51 50], [oB 57 .mul 52 56, oB 58 .add 51 57, oB 60 .add 58 59, oM 13 60])])
  (.ops [oM 61 8, oM 62 9, oM 63 12, oB 64 .add 62 63, oM 65 13, oJ 66 .rem 65 1000000000, oM 67 13, oJ 68 .quo 67 1000000000, oP 69 (.iaddr 1 (.tmp 61) (.tmp 64)), oS 1 69 66, oM 11 68])))
  (.ops [oM 44 12, oJ 45 .add 44 1, oM 12 45])))
def c98_l1 : SCode :=
  (.seq (.ops [oB 31 .lss 30 29])
  (.seq (.cond (.tmp 31)
  .skip
  (.exit 0))
  (.seq (.block 1 (.seq (.ops [oM 32 30, oP 33 (.iaddr 1 (.tmp 28) (.tmp 30)), oL 34 33, oM 9 32, oM 10 34])
  (.seq (.ops [oI 11 0])
  (.seq (.ops [oI 12 0])
  (.block 2 (.loop c98_l0))))))
  (.ops [oJ 70 .add 30 1, oM 30 70]))))
def c98 : SFunc := ⟨82, (.seq (.ops [oP 4 (.move (.lit (.str []))), oP 5 (.move (.lit (.bool false)))])
  (.seq (.ops [oM 14 0, oC 15 120 ([.tmp 14]), oM 16 1, oC 17 120 ([.tmp 16]), oA 6 (.newc 204 [.bool false, .nils]), oA 7 (.newc 204 [.bool false, .nils]), oS 2 6 15, oS 2 7 17])
  (.seq (.ops [oF 18 1 6, oL 19 18, oE 20 19, oF 21 1 7, oL 22 21, oE 23 22, oB 24 .add 20 23, oJ 25 .add 24 1, oA 26 (.makeS [.int .i64 0] 8 (.tmp 25) (.tmp 25)), oM 8 26])
  (.seq (.seq (.ops [oF 27 1 6, oL 28 27, oE 29 28, oI 30 0])
  (.block 0 (.loop c98_l1)))
  (.seq (.draw [oF 71 0 6, oL 72 71, oF 73 0 7, oL 74 73, oP 75 (.bin .neq .bool (.tmp 72) (.tmp 74)), oM 76 8] [(oC 77 123 ([.tmp 76]), [oL 72 71, oL 74 73], [oP 78 (.build [.bool false, .nils] [(0, 1, .tmp 75), (1, 1, .tmp 77)])]), (oC 79 121 ([.tmp 78]), [], [oP 80 (.extract (.tmp 79) 0), oP 81 (.extract (.tmp 79) 1), oM 4 80, oM 5 81])])
  .ret))))), [.tmp 4, .tmp 5]⟩
theorem code98 (own : OwnT) (mode : FuncId → Nat) : (slimPrg Tryz.prog own mode).code 98 = some c98 := by kernel_rfl
-- thunk/big.Cmp
def c99 : SFunc := ⟨27, (.seq (.ops [oI 4 0])
  (.seq (.ops [oM 8 0, oC 9 120 ([.tmp 8]), oM 10 1, oC 11 120 ([.tmp 10]), oA 5 (.newc 204 [.bool false, .nils]), oA 6 (.newc 204 [.bool false, .nils]), oS 2 5 9, oS 2 6 11])
  (.seq (.draw [oN 12 2 5, oF 13 0 6, oL 14 13, oP 15 (.not (.tmp 14)), oF 16 1 6, oL 17 16, oA 7 (.newc 204 [.bool false, .nils])] [(oC 18 124 ([.tmp 17]), [oN 12 2 5, oL 14 13], [oP 19 (.build [.bool false, .nils] [(0, 1, .tmp 15), (1, 1, .tmp 18)])]), (oC 20 119 ([.tmp 12, .tmp 19]), [], []), (oS 2 7 20, [], [])])
  (.seq (.seq (.ops [oF 21 1 7, oL 22 21, oE 23 22, oJ 24 .eql 23 0])
  (.cond (.tmp 24)
  (.seq (.ops [oI 4 0])
  .ret)
  .skip))
  (.seq (.seq (.ops [oF 25 0 7, oL 26 25])
  (.cond (.tmp 26)
  (.seq (.ops [oP 4 (.move (.lit (.int .i64 (-1))))])
  .ret)
  .skip))
  (.seq (.ops [oI 4 1])
  .ret)))))), [.tmp 4]⟩
theorem code99 (own : OwnT) (mode : FuncId → Nat) : (slimPrg Tryz.prog own mode).code 99 = some c99 := by kernel_rfl
-- thunk/big.Quo
def c100_l0 : SCode :=
  (.seq (.seq (.ops [oM 48 9, oF 49 1 8, oL 50 49, oC 51 127 ([.tmp 48, .tmp 50]), oJ 52 .geq 51 0])
  (.cond (.tmp 52)
  .skip
  (.exit 2)))
  (.seq (.block 3 (.ops [oM 55 9, oF 56 1 8, oL 57 56, oC 58 128 ([.tmp 55, .tmp 57]), oM 9 58]))
  (.ops [oM 53 14, oP 54 (.bin .add .none (.tmp 53) (.lit (.int .u8 1))), oM 14 54])))
def c100_l1 : SCode :=
  (.seq (.ops [oW 26 (.nextT (.tmp 25)), oP 27 (.extract (.tmp 26) 0)])
  (.seq (.cond (.tmp 27)
  .skip
  (.exit 0))
  (.block 1 (.seq (.ops [oP 28 (.extract (.tmp 26) 2), oM 12 28])
  (.seq (.ops [oM 29 9, oM 30 9, oC 31 126 ([.tmp 29, .tmp 30]), oM 9 31])
  (.seq (.ops [oM 32 9, oM 13 32])
  (.seq (.ops [oM 33 9, oM 34 9, oC 35 126 ([.tmp 33, .tmp 34]), oM 36 9, oM 37 9, oC 38 126 ([.tmp 36, .tmp 37]), oC 39 126 ([.tmp 35, .tmp 38]), oM 9 39])
  (.seq (.ops [oM 40 9, oM 41 13, oC 42 126 ([.tmp 40, .tmp 41]), oM 43 12, oP 44 (.bin .sub .none (.tmp 43) (.lit (.int .i32 48))), oP 45 (.toInt .i64 (.tmp 44)), oA 46 (.buildS [.int .i64 0] 1 [(0, 1, .tmp 45)]), oC 47 126 ([.tmp 42, .tmp 46]), oM 9 47])
  (.seq (.ops [oP 14 (.move (.lit (.int .u8 48)))])
  (.seq (.block 2 (.loop c100_l0))
  (.ops [oM 59 10, oM 60 14, oA 61 (.buildS [.int .u8 0] 1 [(0, 1, .tmp 60)]), oW 62 (.append 5 1 1 (.tmp 59) (.tmp 61)), oM 10 62])))))))))))
def c100 : SFunc := ⟨87, (.seq (.ops [oP 4 (.move (.lit (.str []))), oP 5 (.move (.lit (.str []))), oP 6 (.move (.lit (.bool false)))])
  (.seq (.ops [oM 15 0, oC 16 120 ([.tmp 15]), oM 17 1, oC 18 120 ([.tmp 17]), oA 7 (.newc 204 [.bool false, .nils]), oA 8 (.newc 204 [.bool false, .nils]), oS 2 7 16, oS 2 8 18])
  (.seq (.seq (.ops [oF 19 1 8, oL 20 19, oE 21 20, oJ 22 .eql 21 0])
  (.cond (.tmp 22)
  (.seq (.ops [oP 4 (.move (.lit (.str []))), oP 5 (.move (.lit (.str []))), oP 6 (.move (.lit (.bool false)))])
  .ret)
  .skip))
  (.seq (.ops [oP 9 (.move (.lit .nils))])
  (.seq (.ops [oP 10 (.move (.lit .nils))])
  (.seq (.seq (.ops [oM 23 0, oC 24 125 ([.tmp 23, .lit (.str [45])]), oA 25 (.rangeT (.tmp 24))])
  (.block 0 (.loop c100_l1)))
  (.seq (.draw [oF 64 0 7, oL 65 64, oF 66 0 8, oL 67 66, oP 68 (.bin .neq .bool (.tmp 65) (.tmp 67)), oM 69 10, oP 70 (.bytesStr (.tmp 69))] [(oC 71 120 ([.tmp 70]), [oL 65 64, oL 67 66], [oP 72 (.field1 1 (.tmp 71)), oP 73 (.build [.bool false, .nils] [(0, 1, .tmp 68), (1, 1, .tmp 72)])]), (oC 74 121 ([.tmp 73]), [], [oM 63 74, oP 75 (.extract (.tmp 63) 0), oP 76 (.extract (.tmp 63) 1), oM 4 75])])
  (.seq (.ops [oF 78 0 7, oL 79 78, oM 80 9, oP 81 (.build [.bool false, .nils] [(0, 1, .tmp 79), (1, 1, .tmp 80)]), oC 82 121 ([.tmp 81]), oM 77 82, oP 83 (.extract (.tmp 77) 0), oP 84 (.extract (.tmp 77) 1), oM 5 83])
  (.seq (.ops [oM 85 4, oM 86 5, oM 4 85, oM 5 86, oP 6 (.move (.lit (.bool true)))])
  .ret))))))))), [.tmp 4, .tmp 5, .tmp 6]⟩
theorem code100 (own : OwnT) (mode : FuncId → Nat) : (slimPrg Tryz.prog own mode).code 100 = some c100 := by kernel_rfl
-- thunk/big.sum
def c119 : SFunc := ⟨36, (.seq (.ops [oA 2 (.box 204 (.tmp 0)), oA 3 (.box 204 (.tmp 1)), oA 4 (.newc 204 [.bool false, .nils])])
  (.seq (.seq (.ops [oF 5 0 2, oL 6 5, oP 7 (.build [.bool false] [(0, 1, .tmp 6)]), oF 8 0 3, oL 9 8, oP 10 (.build [.bool false] [(0, 1, .tmp 9)]), oP 11 (.bin .eql (.many [(0, 0)]) (.tmp 7) (.tmp 10))])
  (.cond (.tmp 11)
  (.seq (.draw [oF 12 0 2, oL 13 12, oF 14 1 2, oL 15 14, oF 16 1 3, oL 17 16] [(oC 18 126 ([.tmp 15, .tmp 17]), [oL 13 12], [oP 19 (.build [.bool false, .nils] [(0, 1, .tmp 13), (1, 1, .tmp 18)])]), (oS 2 4 19, [], [])])
  .ret)
  .skip))
  (.seq (.seq (.ops [oF 20 1 2, oL 21 20, oF 22 1 3, oL 23 22, oC 24 127 ([.tmp 21, .tmp 23]), oJ 25 .lss 24 0])
  (.cond (.tmp 25)
  (.ops [oN 26 2 3, oN 27 2 2, oS 2 2 26, oS 2 3 27])
  .skip))
  (.seq (.draw [oF 28 0 2, oL 29 28, oF 30 1 2, oL 31 30, oF 32 1 3, oL 33 32] [(oC 34 128 ([.tmp 31, .tmp 33]), [oL 29 28], [oP 35 (.build [.bool false, .nils] [(0, 1, .tmp 29), (1, 1, .tmp 34)])]), (oS 2 4 35, [], [])])
  .ret)))), [.celln 4 2]⟩
theorem code119 (own : OwnT) (mode : FuncId → Nat) : (slimPrg Tryz.prog own mode).code 119 = some c119 := by kernel_rfl
-- thunk/big.load
def c120_l0 : SCode :=
  (.seq (.ops [oW 28 (.nextT (.tmp 27)), oP 29 (.extract (.tmp 28) 0)])
  (.seq (.cond (.tmp 29)
  .skip
  (.exit 2))
  (.block 3 (.seq (.ops [oP 30 (.extract (.tmp 28) 2), oM 9 30])
  (.ops [oM 31 7, oP 32 (.bin .mul .none (.lit (.int .i64 10)) (.tmp 31)), oM 33 9, oP 34 (.bin .sub .none (.tmp 33) (.lit (.int .i32 48))), oP 35 (.toInt .i64 (.tmp 34)), oB 36 .add 32 35, oM 7 36])))))
def c120_l1 : SCode :=
  (.seq (.seq (.ops [oM 17 6, oJ 18 .gtr 17 0])
  (.cond (.tmp 18)
  .skip
  (.exit 0)))
  (.seq (.block 1 (.seq (.ops [oI 7 0])
  (.seq (.seq (.ops [oM 21 3, oM 22 6, oJ 23 .sub 22 9, oP 24 (.max2 (.tmp 23) (.lit (.int .i64 0))), oM 25 6, oP 26 (.sliceT (.tmp 21) (some (.tmp 24)) (some (.tmp 25))), oA 27 (.rangeT (.tmp 26))])
  (.block 2 (.loop c120_l0)))
  (.ops [oM 37 5, oM 38 7, oA 39 (.buildS [.int .i64 0] 1 [(0, 1, .tmp 38)]), oW 40 (.append 3 1 8 (.tmp 37) (.tmp 39)), oM 5 40]))))
  (.ops [oM 19 6, oJ 20 .sub 19 9, oM 6 20])))
def c120 : SFunc := ⟨45, (.seq (.ops [oA 2 (.newc 204 [.bool false, .nils])])
  (.seq (.ops [oM 11 0, oC 12 146 ([.tmp 11, .lit (.str [45])]), oM 10 12, oP 13 (.extract (.tmp 10) 0), oP 14 (.extract (.tmp 10) 1), oM 3 13, oM 4 14])
  (.seq (.ops [oP 5 (.move (.lit .nils))])
  (.seq (.seq (.ops [oM 15 3, oP 16 (.lenT (.tmp 15)), oM 6 16])
  (.block 0 (.loop c120_l1)))
  (.seq (.ops [oM 41 4, oM 42 5, oC 43 123 ([.tmp 42]), oP 44 (.build [.bool false, .nils] [(0, 1, .tmp 41), (1, 1, .tmp 43)]), oS 2 2 44])
  .ret))))), [.celln 2 2]⟩
theorem code120 (own : OwnT) (mode : FuncId → Nat) : (slimPrg Tryz.prog own mode).code 120 = some c120 := by kernel_rfl
-- (thunk/big.num).text
def c121_l0 : SCode :=
  (.seq (.seq (.ops [oM 15 5, oJ 16 .geq 15 0])
  (.cond (.tmp 16)
  .skip
  (.exit 0)))
  (.seq (.block 1 (.seq (.ops [oF 19 1 1, oL 20 19, oM 21 5, oP 22 (.iaddr 1 (.tmp 20) (.tmp 21)), oL 23 22, oC 24 147 ([.tmp 23]), oM 6 24])
  (.seq (.seq (.ops [oC 25 76 ([.tmp 4]), oJ 26 .gtr 25 0])
  (.cond (.tmp 26)
  (.ops [oM 27 6, oP 28 (.lenT (.tmp 27)), oP 29 (.bin .sub .none (.lit (.int .i64 9)) (.tmp 28)), oC 30 148 ([.lit (.str [48]), .tmp 29]), oC 31 78 ([.tmp 4, .tmp 30])])
  .skip))
  (.ops [oM 32 6, oC 33 78 ([.tmp 4, .tmp 32])]))))
  (.ops [oM 17 5, oJ 18 .sub 17 1, oM 5 18])))
def c121 : SFunc := ⟨41, (.seq (.ops [oA 1 (.box 204 (.tmp 0)), oP 2 (.move (.lit (.str []))), oP 3 (.move (.lit (.bool false)))])
  (.seq (.seq (.ops [oF 7 1 1, oL 8 7, oE 9 8, oJ 10 .eql 9 0])
  (.cond (.tmp 10)
  (.seq (.ops [oP 2 (.move (.lit (.str [48]))), oP 3 (.move (.lit (.bool true)))])
  .ret)
  .skip))
  (.seq (.ops [oA 4 (.newc 67 [.nilp, .nils])])
  (.seq (.seq (.ops [oF 11 1 1, oL 12 11, oE 13 12, oJ 14 .sub 13 1, oM 5 14])
  (.block 0 (.loop c121_l0)))
  (.seq (.seq (.ops [oC 34 76 ([.tmp 4]), oJ 35 .gtr 34 200])
  (.cond (.tmp 35)
  (.seq (.ops [oP 2 (.move (.lit (.str []))), oP 3 (.move (.lit (.bool false)))])
  .ret)
  .skip))
  (.seq (.seq (.ops [oF 36 0 1, oL 37 36])
  (.cond (.tmp 37)
  (.seq (.ops [oC 38 28 ([.tmp 4]), oP 39 (.bin .add .none (.lit (.str [45])) (.tmp 38)), oM 2 39, oP 3 (.move (.lit (.bool true)))])
  .ret)
  .skip))
  (.seq (.ops [oC 40 28 ([.tmp 4]), oM 2 40, oP 3 (.move (.lit (.bool true)))])
  .ret))))))), [.tmp 2, .tmp 3]⟩
theorem code121 (own : OwnT) (mode : FuncId → Nat) : (slimPrg Tryz.prog own mode).code 121 = some c121 := by kernel_rfl
-- thunk/big.at
def c122 : SFunc := ⟨13, (.seq (.ops [oI 4 0])
  (.seq (.seq (.ops [oM 5 1, oM 6 0, oE 7 6, oB 8 .lss 5 7])
  (.cond (.tmp 8)
  (.seq (.ops [oM 9 0, oM 10 1, oP 11 (.iaddr 1 (.tmp 9) (.tmp 10)), oL 12 11, oM 4 12])
  .ret)
  .skip))
  (.seq (.ops [oI 4 0])
  .ret))), [.tmp 4]⟩
theorem code122 (own : OwnT) (mode : FuncId → Nat) : (slimPrg Tryz.prog own mode).code 122 = some c122 := by kernel_rfl
-- thunk/big.trim
def c123_l0 : SCode :=
  (.seq (.seq (.ops [oM 6 3, oJ 7 .gtr 6 0, oM 8 7, oG 9 8 true (.move (.tmp 0)), oG 10 8 true (.move (.tmp 3)), oG 11 8 true (.bin .sub .none (.tmp 10) (.lit (.int .i64 1))), oG 12 8 true (.iaddr 1 (.tmp 9) (.tmp 11)), oG 13 8 true (.load1 (.tmp 12)), oG 14 8 true (.bin .eql .none (.tmp 13) (.lit (.int .i64 0))), oP 15 (.pick (.tmp 8) (.tmp 14) (.lit (.bool false)))])
  (.cond (.tmp 15)
  .skip
  (.exit 0)))
  (.block 1 (.ops [oM 16 3, oJ 17 .sub 16 1, oM 3 17])))
def c123 : SFunc := ⟨22, (.seq (.ops [oP 2 (.move (.lit .nils))])
  (.seq (.ops [oM 4 0, oE 5 4, oM 3 5])
  (.seq (.block 0 (.loop c123_l0))
  (.seq (.ops [oM 18 0, oM 19 3, oM 20 3, oP 21 (.sliceS 1 (.tmp 18) none (some (.tmp 19)) (some (.tmp 20))), oM 2 21])
  .ret)))), [.tmp 2]⟩
theorem code123 (own : OwnT) (mode : FuncId → Nat) : (slimPrg Tryz.prog own mode).code 123 = some c123 := by kernel_rfl
-- slices.Clone[[]int,int]
def c124 : SFunc := ⟨8, (.seq (.ops [oP 2 (.move (.lit .nils))])
  (.seq (.seq (.ops [oM 3 0, oP 4 (.bin .eql .slc (.tmp 3) (.lit .nils))])
  (.cond (.tmp 4)
  (.seq (.ops [oP 2 (.move (.lit .nils))])
  .ret)
  .skip))
  (.seq (.ops [oA 5 (.buildS [] 0 []), oM 6 0, oW 7 (.append 3 1 8 (.tmp 5) (.tmp 6)), oM 2 7])
  .ret))), [.tmp 2]⟩
theorem code124 (own : OwnT) (mode : FuncId → Nat) : (slimPrg Tryz.prog own mode).code 124 = some c124 := by kernel_rfl
-- strings.TrimPrefix
def c125 : SFunc := ⟨8, (.seq (.ops [oP 4 (.move (.lit (.str [])))])
  (.seq (.ops [oM 5 0, oM 6 1, oC 7 149 ([.tmp 5, .tmp 6]), oM 4 7])
  .ret)), [.tmp 4]⟩
theorem code125 (own : OwnT) (mode : FuncId → Nat) : (slimPrg Tryz.prog own mode).code 125 = some c125 := by kernel_rfl
-- thunk/big.plus
def c126_l0 : SCode :=
  (.seq (.ops [oB 16 .lss 15 14])
  (.seq (.cond (.tmp 16)
  .skip
  (.exit 0))
  (.seq (.block 1 (.seq (.ops [oM 17 15, oM 7 17])
  (.seq (.ops [oM 18 0, oM 19 7, oC 20 122 ([.tmp 18, .tmp 19]), oM 21 1, oM 22 7, oC 23 122 ([.tmp 21, .tmp 22]), oB 24 .add 20 23, oM 25 6, oB 26 .add 24 25, oM 8 26])
  (.seq (.ops [oM 27 5, oM 28 8, oJ 29 .rem 28 1000000000, oA 30 (.buildS [.int .i64 0] 1 [(0, 1, .tmp 29)]), oW 31 (.append 3 1 8 (.tmp 27) (.tmp 30)), oM 5 31])
  (.ops [oM 32 8, oJ 33 .quo 32 1000000000, oM 6 33])))))
  (.ops [oJ 34 .add 15 1, oM 15 34]))))
def c126 : SFunc := ⟨37, (.seq (.ops [oP 4 (.move (.lit .nils))])
  (.seq (.ops [oP 5 (.move (.lit .nils))])
  (.seq (.ops [oI 6 0])
  (.seq (.seq (.ops [oM 9 0, oE 10 9, oM 11 1, oE 12 11, oP 13 (.max2 (.tmp 10) (.tmp 12)), oJ 14 .add 13 1, oI 15 0])
  (.block 0 (.loop c126_l0)))
  (.seq (.ops [oM 35 5, oC 36 123 ([.tmp 35]), oM 4 36])
  .ret))))), [.tmp 4]⟩
theorem code126 (own : OwnT) (mode : FuncId → Nat) : (slimPrg Tryz.prog own mode).code 126 = some c126 := by kernel_rfl
-- thunk/big.compare
def c127_l0 : SCode :=
  (.seq (.seq (.ops [oM 20 5, oJ 21 .geq 20 0])
  (.cond (.tmp 21)
  .skip
  (.exit 0)))
  (.seq (.block 1 (.seq (.draw [oM 24 0, oM 25 5, oP 26 (.iaddr 1 (.tmp 24) (.tmp 25)), oL 27 26, oM 28 1, oM 29 5, oP 30 (.iaddr 1 (.tmp 28) (.tmp 29)), oL 31 30, oB 32 .neq 27 31] [])
  (.cond (.tmp 32)
  (.seq (.draw [oM 33 0, oM 34 5, oP 35 (.iaddr 1 (.tmp 33) (.tmp 34)), oL 36 35, oM 37 1, oM 38 5, oP 39 (.iaddr 1 (.tmp 37) (.tmp 38)), oL 40 39, oB 41 .sub 36 40] [(oC 42 150 ([.tmp 41]), [], [oM 4 42])])
  .ret)
  .skip)))
  (.ops [oM 22 5, oJ 23 .sub 22 1, oM 5 23])))
def c127 : SFunc := ⟨43, (.seq (.ops [oI 4 0])
  (.seq (.seq (.ops [oM 6 0, oE 7 6, oM 8 1, oE 9 8, oB 10 .neq 7 9])
  (.cond (.tmp 10)
  (.seq (.ops [oM 11 0, oE 12 11, oM 13 1, oE 14 13, oB 15 .sub 12 14, oC 16 150 ([.tmp 15]), oM 4 16])
  .ret)
  .skip))
  (.seq (.seq (.ops [oM 17 0, oE 18 17, oJ 19 .sub 18 1, oM 5 19])
  (.block 0 (.loop c127_l0)))
  (.seq (.ops [oI 4 0])
  .ret)))), [.tmp 4]⟩
theorem code127 (own : OwnT) (mode : FuncId → Nat) : (slimPrg Tryz.prog own mode).code 127 = some c127 := by kernel_rfl
-- thunk/big.less
def c128_l0 : SCode :=
  (.seq (.ops [oB 12 .lss 11 10])
  (.seq (.cond (.tmp 12)
  .skip
  (.exit 0))
  (.seq (.block 1 (.seq (.ops [oM 13 11, oM 7 13])
  (.seq (.draw [oM 14 0, oM 15 7, oP 16 (.iaddr 1 (.tmp 14) (.tmp 15)), oL 17 16, oM 18 1, oM 19 7, oM 22 6] [(oC 20 122 ([.tmp 18, .tmp 19]), [oL 17 16], [oB 21 .sub 17 20, oB 23 .sub 21 22, oM 8 23])])
  (.seq (.ops [oI 6 0])
  (.seq (.seq (.ops [oM 24 8, oJ 25 .lss 24 0])
  (.cond (.tmp 25)
  (.ops [oM 26 8, oJ 27 .add 26 1000000000, oM 8 27, oI 6 1])
  .skip))
  (.ops [oM 28 5, oM 29 8, oA 30 (.buildS [.int .i64 0] 1 [(0, 1, .tmp 29)]), oW 31 (.append 3 1 8 (.tmp 28) (.tmp 30)), oM 5 31]))))))
  (.ops [oJ 32 .add 11 1, oM 11 32]))))
def c128 : SFunc := ⟨35, (.seq (.ops [oP 4 (.move (.lit .nils))])
  (.seq (.ops [oP 5 (.move (.lit .nils))])
  (.seq (.ops [oI 6 0])
  (.seq (.seq (.ops [oM 9 0, oE 10 9, oI 11 0])
  (.block 0 (.loop c128_l0)))
  (.seq (.ops [oM 33 5, oC 34 123 ([.tmp 33]), oM 4 34])
  .ret))))), [.tmp 4]⟩
theorem code128 (own : OwnT) (mode : FuncId → Nat) : (slimPrg Tryz.prog own mode).code 128 = some c128 := by kernel_rfl
-- strings.CutPrefix
def c146 : SFunc := ⟨11, (.seq (.ops [oP 4 (.move (.lit (.str []))), oP 5 (.move (.lit (.bool false)))])
  (.seq (.ops [oM 6 0, oM 7 1, oC 8 161 ([.tmp 6, .tmp 7]), oP 9 (.extract (.tmp 8) 0), oP 10 (.extract (.tmp 8) 1), oM 4 9, oM 5 10])
  .ret)), [.tmp 4, .tmp 5]⟩
theorem code146 (own : OwnT) (mode : FuncId → Nat) : (slimPrg Tryz.prog own mode).code 146 = some c146 := by kernel_rfl
-- internal/stringslite.TrimPrefix
def c149 : SFunc := ⟨13, (.seq (.ops [oP 4 (.move (.lit (.str [])))])
  (.seq (.seq (.ops [oM 5 0, oM 6 1, oC 7 166 ([.tmp 5, .tmp 6])])
  (.cond (.tmp 7)
  (.seq (.ops [oM 8 0, oM 9 1, oP 10 (.lenT (.tmp 9)), oP 11 (.sliceT (.tmp 8) (some (.tmp 10)) none), oM 4 11])
  .ret)
  .skip))
  (.seq (.ops [oM 12 0, oM 4 12])
  .ret))), [.tmp 4]⟩
theorem code149 (own : OwnT) (mode : FuncId → Nat) : (slimPrg Tryz.prog own mode).code 149 = some c149 := by kernel_rfl
-- thunk/big.sign
def c150 : SFunc := ⟨9, (.seq (.ops [oI 2 0])
  (.seq (.block 0 (.seq (.ops [oM 4 0, oJ 5 .lss 4 0, oM 3 5])
  (.cond (.tmp 3)
  (.seq (.ops [oP 2 (.move (.lit (.int .i64 (-1))))])
  .ret)
  (.seq (.ops [oM 7 0, oJ 8 .gtr 7 0, oM 6 8])
  (.cond (.tmp 6)
  (.seq (.ops [oI 2 1])
  .ret)
  .skip)))))
  (.seq (.ops [oI 2 0])
  .ret))), [.tmp 2]⟩
theorem code150 (own : OwnT) (mode : FuncId → Nat) : (slimPrg Tryz.prog own mode).code 150 = some c150 := by kernel_rfl
-- thunk/thunkref1.sign
def c161 : SFunc := ⟨15, (.seq (.ops [oP 4 (.move (.lit (.str []))), oP 5 (.move (.lit (.bool false)))])
  (.seq (.seq (.ops [oM 6 0, oM 7 1, oC 8 166 ([.tmp 6, .tmp 7]), oP 9 (.not (.tmp 8))])
  (.cond (.tmp 9)
  (.seq (.ops [oM 10 0, oM 4 10, oP 5 (.move (.lit (.bool false)))])
  .ret)
  .skip))
  (.seq (.ops [oM 11 0, oM 12 1, oP 13 (.lenT (.tmp 12)), oP 14 (.sliceT (.tmp 11) (some (.tmp 13)) none), oM 4 14, oP 5 (.move (.lit (.bool true)))])
  .ret))), [.tmp 4, .tmp 5]⟩
theorem code161 (own : OwnT) (mode : FuncId → Nat) : (slimPrg Tryz.prog own mode).code 161 = some c161 := by kernel_rfl
-- strings.HasPrefix
def c166 : SFunc := ⟨18, (.seq (.ops [oP 4 (.move (.lit (.bool false)))])
  (.seq (.ops [oM 5 0, oP 6 (.lenT (.tmp 5)), oM 7 1, oP 8 (.lenT (.tmp 7)), oB 9 .geq 6 8, oM 10 9, oG 11 10 true (.move (.tmp 0)), oG 12 10 true (.move (.tmp 1)), oG 13 10 true (.lenT (.tmp 12)), oG 14 10 true (.sliceT (.tmp 11) none (some (.tmp 13))), oG 15 10 true (.move (.tmp 1)), oG 16 10 true (.bin .eql .none (.tmp 14) (.tmp 15)), oP 17 (.pick (.tmp 10) (.tmp 16) (.lit (.bool false))), oM 4 17])
  .ret)), [.tmp 4]⟩
theorem code166 (own : OwnT) (mode : FuncId → Nat) : (slimPrg Tryz.prog own mode).code 166 = some c166 := by kernel_rfl
end Go.Lite
