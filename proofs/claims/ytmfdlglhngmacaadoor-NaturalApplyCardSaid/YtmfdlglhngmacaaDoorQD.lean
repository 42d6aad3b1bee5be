/-
  Several texts in one: Code.
-/
import Derived.Test.YtmfdlglhngmacaaDoorQC
import Derived.Test.YtmfdlglhngmacaaDoorProg
import Derived.KernelRfl

set_option linter.unusedSimpArgs false
set_option linter.unusedVariables false
set_option linter.defProp false
set_option maxRecDepth 100000

/-
  The slimmed code of the functions, printed by program, and that it is what is computed from the program.
-/
namespace Go.Lite
open Go Go.Proofs
abbrev OwnT := FuncId → Option (List AV → Heap → R)
-- thunk/thunklaw10.known
def c11 : SFunc := ⟨26, (.seq (.ops [.mk (some 0) none (.p (.move (.lit (.bool false))))])
  (.seq (.ops [.mk (some 5) none (.p (.build [.int IntKind.i64 0, .str [], .nils, .nils] [(0, 1, .lit (.int IntKind.i64 1)), (1, 1, .lit (.str [53]))])), .mk (some 6) none (.call (.lit (.func 14 [])) [.tmp 5, .lit .nils, .lit (.int IntKind.i64 1)]), .mk (some 4) none (.p (.move (.tmp 6))), .mk (some 7) none (.p (.extract (.tmp 4) 0)), .mk (some 8) none (.p (.extract (.tmp 4) 1)), .mk (some 9) none (.p (.extract (.tmp 4) 2)), .mk (some 1) none (.a (.newc 31 [.int IntKind.i64 0, .str [], .int IntKind.i64 0])), .mk none none (.w (.store 3 (.tmp 1) (.tmp 7))), .mk (some 2) none (.p (.move (.tmp 8))), .mk (some 3) none (.p (.move (.tmp 9)))])
  (.seq (.ops [.mk (some 10) none (.p (.faddr 0 (.tmp 1))), .mk (some 11) none (.p (.load1 (.tmp 10))), .mk (some 12) none (.p (.bin .eql .none (.tmp 11) (.lit (.int IntKind.i64 1)))), .mk (some 13) none (.p (.move (.tmp 12))), .mk (some 14) (some (13, true)) (.p (.faddr 1 (.tmp 1))), .mk (some 15) (some (13, true)) (.p (.load1 (.tmp 14))), .mk (some 16) (some (13, true)) (.p (.bin .eql .none (.tmp 15) (.lit (.str [53])))), .mk (some 17) none (.p (.pick (.tmp 13) (.tmp 16) (.lit (.bool false)))), .mk (some 18) none (.p (.move (.tmp 17))), .mk (some 19) (some (18, true)) (.p (.move (.tmp 2))), .mk (some 20) (some (18, true)) (.p (.bin .eql .none (.tmp 19) (.lit (.int IntKind.i64 1)))), .mk (some 21) none (.p (.pick (.tmp 18) (.tmp 20) (.lit (.bool false)))), .mk (some 22) none (.p (.move (.tmp 21))), .mk (some 23) (some (22, true)) (.p (.move (.tmp 3))), .mk (some 24) (some (22, true)) (.p (.bin .eql .none (.tmp 23) (.lit (.int IntKind.i64 0)))), .mk (some 25) none (.p (.pick (.tmp 22) (.tmp 24) (.lit (.bool false)))), .mk (some 0) none (.p (.move (.tmp 25)))])
  .ret))), [.tmp 0]⟩
theorem code11 (own : OwnT) (mode : FuncId → Nat) : (slimPrg Tryd.prog own mode).code 11 = some c11 := by kernel_rfl
-- thunk/thunklaw5.Few
def c12 : SFunc := ⟨6, (.seq (.ops [.mk (some 2) none (.p (.move (.lit (.bool false))))])
  (.seq (.ops [.mk (some 3) none (.p (.move (.tmp 0))), .mk (some 4) none (.call (.lit (.func 23 [])) [.tmp 3, .lit (.int IntKind.i64 0)]), .mk (some 5) none (.p (.bin .leq .none (.tmp 4) (.lit (.int IntKind.i64 40)))), .mk (some 2) none (.p (.move (.tmp 5)))])
  .ret)), [.tmp 2]⟩
theorem code12 (own : OwnT) (mode : FuncId → Nat) : (slimPrg Tryd.prog own mode).code 12 = some c12 := by kernel_rfl
-- thunk/thunklaw5.Term
def c13_l0 : SCode :=
  (.seq (.seq (.ops [.mk (some 22) none (.p (.move (.tmp 5))), .mk (some 23) none (.p (.move (.tmp 0))), .mk (some 24) none (.p (.lenS (.tmp 23))), .mk (some 25) none (.p (.bin .lss .none (.tmp 22) (.tmp 24))), .mk (some 26) none (.p (.move (.tmp 25))), .mk (some 27) (some (26, true)) (.p (.move (.tmp 5))), .mk (some 28) (some (26, true)) (.p (.bin .lss .none (.tmp 27) (.lit (.int IntKind.i64 5)))), .mk (some 29) none (.p (.pick (.tmp 26) (.tmp 28) (.lit (.bool false))))])
  (.cond (.tmp 29)
  .skip
  (.exit 0)))
  (.seq (.block 1 (.draw [.mk (some 32) none (.p (.faddr 2 (.tmp 4))), .mk (some 33) none (.p (.load1 (.tmp 32))), .mk (some 34) none (.p (.move (.tmp 3)))] [(.mk (some 35) none (.call (.lit (.func 24 [])) [.tmp 34]), [.mk (some 33) none (.p (.load1 (.tmp 32)))], [.mk (some 36) none (.a (.buildS [.str []] 1 [(0, 1, .tmp 35)]))]), (.mk (some 37) none (.w (.append 9 1 16 (.tmp 33) (.tmp 36))), [], [.mk (some 38) none (.p (.faddr 2 (.tmp 4)))]), (.mk none none (.w (.store 1 (.tmp 38) (.tmp 37))), [], [])]))
  (.ops [.mk (some 30) none (.p (.move (.tmp 5))), .mk (some 31) none (.p (.bin .add .none (.tmp 30) (.lit (.int IntKind.i64 1)))), .mk (some 5) none (.p (.move (.tmp 31)))])))
def c13_l1 : SCode :=
  (.seq (.seq (.ops [.mk (some 39) none (.p (.move (.tmp 6))), .mk (some 40) none (.p (.move (.tmp 0))), .mk (some 41) none (.p (.lenS (.tmp 40))), .mk (some 42) none (.p (.bin .lss .none (.tmp 39) (.tmp 41))), .mk (some 43) none (.p (.move (.tmp 42))), .mk (some 44) (some (43, true)) (.p (.move (.tmp 6))), .mk (some 45) (some (43, true)) (.p (.bin .lss .none (.tmp 44) (.lit (.int IntKind.i64 5)))), .mk (some 46) none (.p (.pick (.tmp 43) (.tmp 45) (.lit (.bool false))))])
  (.cond (.tmp 46)
  .skip
  (.exit 2)))
  (.seq (.block 3 (.draw [.mk (some 49) none (.p (.faddr 3 (.tmp 4))), .mk (some 50) none (.p (.load1 (.tmp 49))), .mk (some 51) none (.p (.move (.tmp 3))), .mk (some 52) none (.p (.move (.tmp 0))), .mk (some 53) none (.p (.move (.tmp 6))), .mk (some 54) none (.p (.iaddr 3 (.tmp 52) (.tmp 53))), .mk (some 55) none (.p (.loadn 3 (.tmp 54))), .mk (some 56) none (.p (.faddr 2 (.tmp 4))), .mk (some 57) none (.p (.load1 (.tmp 56)))] [(.mk (some 58) none (.call (.lit (.func 21 [])) [.tmp 51, .tmp 55, .tmp 57]), [.mk (some 50) none (.p (.load1 (.tmp 49)))], [.mk (some 59) none (.a (.buildS [.int IntKind.i64 0, .str [], .nils, .nils] 1 [(0, 4, .tmp 58)]))]), (.mk (some 60) none (.w (.append 28 4 72 (.tmp 50) (.tmp 59))), [], [.mk (some 61) none (.p (.faddr 3 (.tmp 4)))]), (.mk none none (.w (.store 1 (.tmp 61) (.tmp 60))), [], [])]))
  (.ops [.mk (some 47) none (.p (.move (.tmp 6))), .mk (some 48) none (.p (.bin .add .none (.tmp 47) (.lit (.int IntKind.i64 1)))), .mk (some 6) none (.p (.move (.tmp 48)))])))
def c13 : SFunc := ⟨75, (.seq (.ops [.mk (some 2) none (.a (.newc 28 [.int IntKind.i64 0, .str [], .nils, .nils]))])
  (.seq (.ops [.mk (some 7) none (.p (.build [.int IntKind.i64 0] [])), .mk (some 8) none (.a (.box 47 (.tmp 7))), .mk (some 3) none (.p (.move (.tmp 8)))])
  (.seq (.seq (.ops [.mk (some 9) none (.p (.move (.tmp 0))), .mk (some 10) none (.p (.lenS (.tmp 9))), .mk (some 11) none (.p (.bin .eql .none (.tmp 10) (.lit (.int IntKind.i64 0))))])
  (.cond (.tmp 11)
  (.seq (.ops [.mk (some 12) none (.p (.build [.int IntKind.i64 0, .str [], .nils, .nils] [(0, 1, .lit (.int IntKind.i64 1)), (1, 1, .lit (.str [53]))])), .mk none none (.w (.store 4 (.tmp 2) (.tmp 12)))])
  .ret)
  .skip))
  (.seq (.seq (.ops [.mk (some 13) none (.p (.move (.tmp 0))), .mk (some 14) none (.p (.lenS (.tmp 13))), .mk (some 15) none (.p (.bin .eql .none (.tmp 14) (.lit (.int IntKind.i64 1))))])
  (.cond (.tmp 15)
  (.seq (.ops [.mk (some 16) none (.p (.move (.tmp 3))), .mk (some 17) none (.p (.move (.tmp 0))), .mk (some 18) none (.p (.iaddr 3 (.tmp 17) (.lit (.int IntKind.i64 0)))), .mk (some 19) none (.p (.loadn 3 (.tmp 18))), .mk (some 20) none (.call (.lit (.func 21 [])) [.tmp 16, .tmp 19, .lit .nils]), .mk none none (.w (.store 4 (.tmp 2) (.tmp 20)))])
  .ret)
  .skip))
  (.seq (.ops [.mk (some 21) none (.p (.build [.int IntKind.i64 0, .str [], .nils, .nils] [(0, 1, .lit (.int IntKind.i64 9))])), .mk (some 4) none (.a (.newc 28 [.int IntKind.i64 0, .str [], .nils, .nils])), .mk none none (.w (.store 4 (.tmp 4) (.tmp 21)))])
  (.seq (.seq (.ops [.mk (some 5) none (.p (.move (.lit (.int IntKind.i64 1))))])
  (.block 0 (.loop c13_l0)))
  (.seq (.seq (.ops [.mk (some 6) none (.p (.move (.lit (.int IntKind.i64 1))))])
  (.block 2 (.loop c13_l1)))
  (.seq (.draw [.mk (some 62) none (.p (.faddr 3 (.tmp 4))), .mk (some 63) none (.p (.load1 (.tmp 62))), .mk (some 64) none (.p (.move (.tmp 3))), .mk (some 65) none (.p (.move (.tmp 0))), .mk (some 66) none (.p (.iaddr 3 (.tmp 65) (.lit (.int IntKind.i64 0)))), .mk (some 67) none (.p (.loadn 3 (.tmp 66))), .mk (some 68) none (.p (.faddr 2 (.tmp 4))), .mk (some 69) none (.p (.load1 (.tmp 68)))] [(.mk (some 70) none (.call (.lit (.func 21 [])) [.tmp 64, .tmp 67, .tmp 69]), [.mk (some 63) none (.p (.load1 (.tmp 62)))], [.mk (some 71) none (.a (.buildS [.int IntKind.i64 0, .str [], .nils, .nils] 1 [(0, 4, .tmp 70)]))]), (.mk (some 72) none (.w (.append 28 4 72 (.tmp 63) (.tmp 71))), [], [.mk (some 73) none (.p (.faddr 3 (.tmp 4)))]), (.mk none none (.w (.store 1 (.tmp 73) (.tmp 72))), [], [])])
  (.seq (.ops [.mk (some 74) none (.p (.loadn 4 (.tmp 4))), .mk none none (.w (.store 4 (.tmp 2) (.tmp 74)))])
  .ret))))))))), [.celln 2 4]⟩
theorem code13 (own : OwnT) (mode : FuncId → Nat) : (slimPrg Tryd.prog own mode).code 13 = some c13 := by kernel_rfl
-- thunk/natural.Eval
def c14_l0 : SCode :=
  (.seq (.seq (.ops [.mk (some 22) none (.p (.move (.tmp 11))), .mk (some 23) none (.p (.bin .geq .none (.tmp 22) (.lit (.int IntKind.i64 0))))])
  (.cond (.tmp 23)
  .skip
  (.exit 0)))
  (.seq (.block 1 (.ops [.mk (some 26) none (.p (.move (.tmp 1))), .mk (some 27) none (.p (.move (.tmp 11))), .mk (some 28) none (.p (.iaddr 1 (.tmp 26) (.tmp 27))), .mk (some 29) none (.p (.load1 (.tmp 28))), .mk (some 30) none (.p (.build [.int IntKind.i64 0, .str [], .nilp, .nilp, .int IntKind.i64 0, .str [], .nils, .nils, .nilp, .nils] [(0, 1, .lit (.int IntKind.i64 1)), (1, 1, .tmp 29)])), .mk (some 31) none (.call (.lit (.func 25 [])) [.tmp 30]), .mk (some 32) none (.p (.move (.tmp 10))), .mk (some 33) none (.p (.build [.int IntKind.i64 0, .str [], .nilp, .nilp, .int IntKind.i64 0, .str [], .nils, .nils, .nilp, .nils] [(0, 1, .lit (.int IntKind.i64 5)), (2, 1, .tmp 31), (3, 1, .tmp 32)])), .mk (some 34) none (.call (.lit (.func 25 [])) [.tmp 33]), .mk (some 10) none (.p (.move (.tmp 34)))]))
  (.ops [.mk (some 24) none (.p (.move (.tmp 11))), .mk (some 25) none (.p (.bin .sub .none (.tmp 24) (.lit (.int IntKind.i64 1)))), .mk (some 11) none (.p (.move (.tmp 25)))])))
def c14 : SFunc := ⟨49, (.seq (.ops [.mk (some 3) none (.a (.box 28 (.tmp 0))), .mk (some 6) none (.a (.newc 31 [.int IntKind.i64 0, .str [], .int IntKind.i64 0])), .mk (some 7) none (.a (.newc 3 [.int IntKind.i64 0])), .mk (some 8) none (.a (.newc 3 [.int IntKind.i64 0]))])
  (.seq (.ops [.mk (some 12) none (.p (.move (.tmp 2))), .mk (some 13) none (.p (.build [.int IntKind.i64 0, .int IntKind.i64 0, .int IntKind.i64 0] [(2, 1, .tmp 12)])), .mk (some 14) none (.a (.box 59 (.tmp 13))), .mk (some 15) none (.p (.build [.nilp, .nilp, .nils] [(0, 1, .tmp 14)])), .mk (some 16) none (.a (.box 65 (.tmp 15))), .mk (some 9) none (.a (.newc 56 [.nilp])), .mk none none (.w (.store 1 (.tmp 9) (.tmp 16)))])
  (.seq (.ops [.mk (some 17) none (.p (.build [.int IntKind.i64 0, .str [], .nilp, .nilp, .int IntKind.i64 0, .str [], .nils, .nils, .nilp, .nils] [(0, 1, .lit (.int IntKind.i64 3)), (1, 1, .lit (.str [40, 41]))])), .mk (some 18) none (.call (.lit (.func 25 [])) [.tmp 17]), .mk (some 10) none (.p (.move (.tmp 18)))])
  (.seq (.seq (.ops [.mk (some 19) none (.p (.move (.tmp 1))), .mk (some 20) none (.p (.lenS (.tmp 19))), .mk (some 21) none (.p (.bin .sub .none (.tmp 20) (.lit (.int IntKind.i64 1)))), .mk (some 11) none (.p (.move (.tmp 21)))])
  (.block 0 (.loop c14_l0)))
  (.seq (.ops [.mk none none (.p (.nilchk (.lit .undef)))])
  (.seq (.draw [.mk (some 36) none (.p (.load1 (.tmp 9))), .mk (some 37) none (.p (.load1 (.tmp 9))), .mk (some 38) none (.p (.loadn 4 (.tmp 3))), .mk (some 39) none (.p (.move (.tmp 10))), .mk (some 40) none (.p (.build [.str [], .nilp, .nilp] [(0, 1, .lit (.str [105, 110, 112, 117, 116])), (1, 1, .tmp 39), (2, 1, .lit .nilp)])), .mk (some 41) none (.a (.box 76 (.tmp 40)))] [(.mk (some 42) none (.call (.lit (.func 28 [])) [.tmp 37, .tmp 38, .tmp 41]), [.mk (some 36) none (.p (.load1 (.tmp 9)))], []), (.mk (some 43) none (.call (.lit (.func 27 [])) [.tmp 36, .tmp 42]), [], [])])
  (.seq (.ops [.mk (some 44) none (.p (.load1 (.tmp 9))), .mk (some 45) none (.p (.nilchk (.tmp 44))), .mk (some 46) none (.p (.faddr 1 (.tmp 45))), .mk (some 47) none (.call (.lit (.func 29 [])) [.tmp 46]), .mk (some 48) none (.p (.build [.int IntKind.i64 0, .str [], .int IntKind.i64 0] [(0, 1, .lit (.int IntKind.i64 1)), (1, 1, .tmp 47)])), .mk none none (.w (.store 3 (.tmp 6) (.tmp 48))), .mk none none (.w (.store 1 (.tmp 7) (.lit (.int IntKind.i64 0)))), .mk none none (.w (.store 1 (.tmp 8) (.lit (.int IntKind.i64 0))))])
  .ret))))))), [.celln 6 3, .cell1 7, .cell1 8]⟩
theorem code14 (own : OwnT) (mode : FuncId → Nat) : (slimPrg Tryd.prog own mode).code 14 = some c14 := by kernel_rfl
-- thunk/thunklaw10.within
def c15 : SFunc := ⟨15, (.seq (.ops [.mk (some 4) none (.p (.move (.lit (.int IntKind.i64 0))))])
  (.seq (.ops [.mk (some 6) none (.p (.move (.tmp 0))), .mk (some 7) none (.p (.move (.tmp 1))), .mk (some 8) none (.p (.bin .rem .none (.tmp 6) (.tmp 7))), .mk (some 5) none (.p (.move (.tmp 8)))])
  (.seq (.seq (.ops [.mk (some 9) none (.p (.move (.tmp 5))), .mk (some 10) none (.p (.bin .lss .none (.tmp 9) (.lit (.int IntKind.i64 0))))])
  (.cond (.tmp 10)
  (.ops [.mk (some 11) none (.p (.move (.tmp 5))), .mk (some 12) none (.p (.move (.tmp 1))), .mk (some 13) none (.p (.bin .add .none (.tmp 11) (.tmp 12))), .mk (some 5) none (.p (.move (.tmp 13)))])
  .skip))
  (.seq (.ops [.mk (some 14) none (.p (.move (.tmp 5))), .mk (some 4) none (.p (.move (.tmp 14)))])
  .ret)))), [.tmp 4]⟩
theorem code15 (own : OwnT) (mode : FuncId → Nat) : (slimPrg Tryd.prog own mode).code 15 = some c15 := by kernel_rfl
-- thunk/thunkref5.Bind
def c16 : SFunc := ⟨13, (.seq (.ops [.mk (some 4) none (.a (.box 28 (.tmp 1))), .mk (some 5) none (.a (.box 28 (.tmp 2))), .mk (some 6) none (.a (.newc 28 [.int IntKind.i64 0, .str [], .nils, .nils]))])
  (.seq (.ops [.mk (some 7) none (.p (.move (.tmp 0))), .mk (some 8) none (.a (.buildS [.str []] 1 [(0, 1, .tmp 7)])), .mk (some 9) none (.p (.loadn 4 (.tmp 4))), .mk (some 10) none (.p (.loadn 4 (.tmp 5))), .mk (some 11) none (.a (.buildS [.int IntKind.i64 0, .str [], .nils, .nils, .int IntKind.i64 0, .str [], .nils, .nils] 2 [(0, 4, .tmp 9), (4, 4, .tmp 10)])), .mk (some 12) none (.p (.build [.int IntKind.i64 0, .str [], .nils, .nils] [(0, 1, .lit (.int IntKind.i64 9)), (2, 1, .tmp 8), (3, 1, .tmp 11)])), .mk none none (.w (.store 4 (.tmp 6) (.tmp 12)))])
  .ret)), [.celln 6 4]⟩
theorem code16 (own : OwnT) (mode : FuncId → Nat) : (slimPrg Tryd.prog own mode).code 16 = some c16 := by kernel_rfl
-- thunk/thunkref5.Var
def c17 : SFunc := ⟨5, (.seq (.ops [.mk (some 2) none (.a (.newc 28 [.int IntKind.i64 0, .str [], .nils, .nils]))])
  (.seq (.ops [.mk (some 3) none (.p (.move (.tmp 0))), .mk (some 4) none (.p (.build [.int IntKind.i64 0, .str [], .nils, .nils] [(0, 1, .lit (.int IntKind.i64 5)), (1, 1, .tmp 3)])), .mk none none (.w (.store 4 (.tmp 2) (.tmp 4)))])
  .ret)), [.celln 2 4]⟩
theorem code17 (own : OwnT) (mode : FuncId → Nat) : (slimPrg Tryd.prog own mode).code 17 = some c17 := by kernel_rfl
-- thunk/thunklaw1.Num
def c19_l0 : SCode :=
  (.seq (.seq (.ops [.mk (some 10) none (.p (.move (.tmp 8))), .mk (some 11) none (.p (.move (.tmp 0))), .mk (some 12) none (.p (.lenS (.tmp 11))), .mk (some 13) none (.p (.bin .lss .none (.tmp 10) (.tmp 12))), .mk (some 14) none (.p (.move (.tmp 13))), .mk (some 15) (some (14, true)) (.p (.move (.tmp 7))), .mk (some 16) (some (14, true)) (.p (.lenT (.tmp 15))), .mk (some 17) (some (14, true)) (.p (.move (.tmp 1))), .mk (some 18) (some (14, true)) (.p (.bin .lss .none (.tmp 16) (.tmp 17))), .mk (some 19) none (.p (.pick (.tmp 14) (.tmp 18) (.lit (.bool false))))])
  (.cond (.tmp 19)
  .skip
  (.exit 0)))
  (.seq (.block 1 (.seq (.ops [.mk (some 22) none (.p (.move (.tmp 0))), .mk (some 23) none (.p (.move (.tmp 8))), .mk (some 24) none (.p (.iaddr 1 (.tmp 22) (.tmp 23))), .mk (some 25) none (.p (.load1 (.tmp 24))), .mk (some 26) none (.call (.lit (.func 31 [])) [.tmp 25, .lit (.int IntKind.i64 10)]), .mk (some 9) none (.p (.move (.tmp 26)))])
  (.seq (.seq (.ops [.mk (some 27) none (.p (.move (.tmp 0))), .mk (some 28) none (.p (.move (.tmp 8))), .mk (some 29) none (.p (.iaddr 1 (.tmp 27) (.tmp 28))), .mk (some 30) none (.p (.load1 (.tmp 29))), .mk (some 31) none (.p (.bin .quo .none (.tmp 30) (.lit (.int IntKind.i64 10)))), .mk (some 32) none (.call (.lit (.func 31 [])) [.tmp 31, .lit (.int IntKind.i64 4)]), .mk (some 33) none (.p (.bin .eql .none (.tmp 32) (.lit (.int IntKind.i64 0))))])
  (.cond (.tmp 33)
  (.ops [.mk (some 34) none (.p (.move (.tmp 0))), .mk (some 35) none (.p (.move (.tmp 8))), .mk (some 36) none (.p (.iaddr 1 (.tmp 34) (.tmp 35))), .mk (some 37) none (.p (.load1 (.tmp 36))), .mk (some 38) none (.p (.bin .quo .none (.tmp 37) (.lit (.int IntKind.i64 40)))), .mk (some 39) none (.call (.lit (.func 31 [])) [.tmp 38, .lit (.int IntKind.i64 2)]), .mk (some 40) none (.p (.bin .mul .none (.lit (.int IntKind.i64 9)) (.tmp 39))), .mk (some 9) none (.p (.move (.tmp 40)))])
  .skip))
  (.seq (.seq (.ops [.mk (some 41) none (.p (.move (.tmp 7))), .mk (some 42) none (.p (.bin .eql .none (.tmp 41) (.lit (.str [])))), .mk (some 43) none (.p (.move (.tmp 42))), .mk (some 44) (some (43, true)) (.p (.move (.tmp 9))), .mk (some 45) (some (43, true)) (.p (.bin .eql .none (.tmp 44) (.lit (.int IntKind.i64 0)))), .mk (some 46) none (.p (.pick (.tmp 43) (.tmp 45) (.lit (.bool false))))])
  (.cond (.tmp 46)
  (.exit 1)
  .skip))
  (.ops [.mk (some 47) none (.p (.move (.tmp 7))), .mk (some 48) none (.p (.move (.tmp 9))), .mk (some 49) none (.p (.bin .add .none (.lit (.int IntKind.i64 48)) (.tmp 48))), .mk (some 50) none (.p (.toInt IntKind.u8 (.tmp 49))), .mk (some 51) none (.a (.buildS [.int IntKind.u8 0] 1 [(0, 1, .tmp 50)])), .mk (some 52) none (.p (.bytesStr (.tmp 51))), .mk (some 53) none (.p (.bin .add .none (.tmp 47) (.tmp 52))), .mk (some 7) none (.p (.move (.tmp 53)))])))))
  (.ops [.mk (some 20) none (.p (.move (.tmp 8))), .mk (some 21) none (.p (.bin .add .none (.tmp 20) (.lit (.int IntKind.i64 1)))), .mk (some 8) none (.p (.move (.tmp 21)))])))
def c19 : SFunc := ⟨60, (.seq (.ops [.mk (some 6) none (.p (.move (.lit (.str []))))])
  (.seq (.ops [.mk (some 7) none (.p (.move (.lit (.str []))))])
  (.seq (.seq (.ops [.mk (some 8) none (.p (.move (.lit (.int IntKind.i64 0))))])
  (.block 0 (.loop c19_l0)))
  (.seq (.seq (.ops [.mk (some 54) none (.p (.move (.tmp 7))), .mk (some 55) none (.p (.bin .eql .none (.tmp 54) (.lit (.str []))))])
  (.cond (.tmp 55)
  (.seq (.ops [.mk (some 6) none (.p (.move (.lit (.str [48]))))])
  .ret)
  .skip))
  (.seq (.seq (.ops [.mk (some 56) none (.p (.move (.tmp 2)))])
  (.cond (.tmp 56)
  (.seq (.ops [.mk (some 57) none (.p (.move (.tmp 7))), .mk (some 58) none (.p (.bin .add .none (.lit (.str [45])) (.tmp 57))), .mk (some 6) none (.p (.move (.tmp 58)))])
  .ret)
  .skip))
  (.seq (.ops [.mk (some 59) none (.p (.move (.tmp 7))), .mk (some 6) none (.p (.move (.tmp 59)))])
  .ret)))))), [.tmp 6]⟩
theorem code19 (own : OwnT) (mode : FuncId → Nat) : (slimPrg Tryd.prog own mode).code 19 = some c19 := by kernel_rfl
-- (*thunk/thunklaw5.Maker).Make
def c21_l0 : SCode :=
  (.seq (.seq (.ops [.mk (some 69) none (.p (.move (.tmp 9))), .mk (some 70) none (.p (.faddr 1 (.tmp 4))), .mk (some 71) none (.p (.load1 (.tmp 70))), .mk (some 72) none (.call (.lit (.func 35 [])) [.tmp 71, .lit (.int IntKind.i64 2)]), .mk (some 73) none (.p (.bin .leq .none (.tmp 69) (.tmp 72)))])
  (.cond (.tmp 73)
  .skip
  (.exit 1)))
  (.seq (.block 2 (.seq (.ops [.mk (some 76) none (.p (.move (.tmp 0))), .mk (some 77) none (.call (.lit (.func 24 [])) [.tmp 76]), .mk (some 10) none (.p (.move (.tmp 77)))])
  (.ops [.mk (some 78) none (.p (.faddr 2 (.tmp 7))), .mk (some 79) none (.p (.load1 (.tmp 78))), .mk (some 80) none (.p (.move (.tmp 10))), .mk (some 81) none (.a (.buildS [.str []] 1 [(0, 1, .tmp 80)])), .mk (some 82) none (.w (.append 9 1 16 (.tmp 79) (.tmp 81))), .mk (some 83) none (.p (.move (.tmp 8))), .mk (some 84) none (.p (.move (.tmp 10))), .mk (some 85) none (.a (.buildS [.str []] 1 [(0, 1, .tmp 84)])), .mk (some 86) none (.w (.append 9 1 16 (.tmp 83) (.tmp 85))), .mk (some 87) none (.p (.faddr 2 (.tmp 7))), .mk none none (.w (.store 1 (.tmp 87) (.tmp 82))), .mk (some 8) none (.p (.move (.tmp 86)))])))
  (.ops [.mk (some 74) none (.p (.move (.tmp 9))), .mk (some 75) none (.p (.bin .add .none (.tmp 74) (.lit (.int IntKind.i64 1)))), .mk (some 9) none (.p (.move (.tmp 75)))])))
def c21_l1 : SCode :=
  (.seq (.seq (.ops [.mk (some 100) none (.p (.move (.tmp 12))), .mk (some 101) none (.p (.faddr 1 (.tmp 4))), .mk (some 102) none (.p (.load1 (.tmp 101))), .mk (some 103) none (.call (.lit (.func 35 [])) [.tmp 102, .lit (.int IntKind.i64 2)]), .mk (some 104) none (.p (.bin .add .none (.lit (.int IntKind.i64 2)) (.tmp 103))), .mk (some 105) none (.p (.bin .lss .none (.tmp 100) (.tmp 104)))])
  (.cond (.tmp 105)
  .skip
  (.exit 3)))
  (.seq (.block 4 (.draw [.mk (some 108) none (.p (.faddr 3 (.tmp 11))), .mk (some 109) none (.p (.load1 (.tmp 108))), .mk (some 110) none (.p (.move (.tmp 0))), .mk (some 111) none (.p (.loadn 3 (.tmp 4))), .mk (some 112) none (.p (.move (.tmp 12))), .mk (some 113) none (.p (.move (.tmp 2)))] [(.mk (some 114) none (.call (.lit (.func 36 [])) [.tmp 110, .tmp 111, .tmp 112, .tmp 113]), [.mk (some 109) none (.p (.load1 (.tmp 108)))], [.mk (some 115) none (.a (.buildS [.int IntKind.i64 0, .str [], .nils, .nils] 1 [(0, 4, .tmp 114)]))]), (.mk (some 116) none (.w (.append 28 4 72 (.tmp 109) (.tmp 115))), [], [.mk (some 117) none (.p (.faddr 3 (.tmp 11)))]), (.mk none none (.w (.store 1 (.tmp 117) (.tmp 116))), [], [])]))
  (.ops [.mk (some 106) none (.p (.move (.tmp 12))), .mk (some 107) none (.p (.bin .add .none (.tmp 106) (.lit (.int IntKind.i64 1)))), .mk (some 12) none (.p (.move (.tmp 107)))])))
def c21_l2 : SCode :=
  (.seq (.seq (.ops [.mk (some 147) none (.p (.move (.tmp 16))), .mk (some 148) none (.p (.move (.tmp 15))), .mk (some 149) none (.p (.bin .lss .none (.tmp 147) (.tmp 148)))])
  (.cond (.tmp 149)
  .skip
  (.exit 5)))
  (.seq (.block 6 (.seq (.ops [.mk (some 152) none (.p (.move (.tmp 0))), .mk (some 153) none (.call (.lit (.func 24 [])) [.tmp 152]), .mk (some 17) none (.p (.move (.tmp 153)))])
  (.ops [.mk (some 154) none (.p (.faddr 2 (.tmp 13))), .mk (some 155) none (.p (.load1 (.tmp 154))), .mk (some 156) none (.p (.move (.tmp 17))), .mk (some 157) none (.a (.buildS [.str []] 1 [(0, 1, .tmp 156)])), .mk (some 158) none (.w (.append 9 1 16 (.tmp 155) (.tmp 157))), .mk (some 159) none (.p (.move (.tmp 14))), .mk (some 160) none (.p (.move (.tmp 17))), .mk (some 161) none (.a (.buildS [.str []] 1 [(0, 1, .tmp 160)])), .mk (some 162) none (.w (.append 9 1 16 (.tmp 159) (.tmp 161))), .mk (some 163) none (.p (.faddr 2 (.tmp 13))), .mk none none (.w (.store 1 (.tmp 163) (.tmp 158))), .mk (some 14) none (.p (.move (.tmp 162)))])))
  (.ops [.mk (some 150) none (.p (.move (.tmp 16))), .mk (some 151) none (.p (.bin .add .none (.tmp 150) (.lit (.int IntKind.i64 1)))), .mk (some 16) none (.p (.move (.tmp 151)))])))
def c21_l3 : SCode :=
  (.seq (.seq (.ops [.mk (some 164) none (.p (.move (.tmp 18))), .mk (some 165) none (.p (.move (.tmp 15))), .mk (some 166) none (.p (.bin .leq .none (.tmp 164) (.tmp 165)))])
  (.cond (.tmp 166)
  .skip
  (.exit 7)))
  (.seq (.block 8 (.draw [.mk (some 169) none (.p (.faddr 3 (.tmp 13))), .mk (some 170) none (.p (.load1 (.tmp 169))), .mk (some 171) none (.p (.move (.tmp 0))), .mk (some 172) none (.p (.loadn 3 (.tmp 4))), .mk (some 173) none (.p (.move (.tmp 18))), .mk (some 174) none (.p (.move (.tmp 14)))] [(.mk (some 175) none (.call (.lit (.func 36 [])) [.tmp 171, .tmp 172, .tmp 173, .tmp 174]), [.mk (some 170) none (.p (.load1 (.tmp 169)))], [.mk (some 176) none (.a (.buildS [.int IntKind.i64 0, .str [], .nils, .nils] 1 [(0, 4, .tmp 175)]))]), (.mk (some 177) none (.w (.append 28 4 72 (.tmp 170) (.tmp 176))), [], [.mk (some 178) none (.p (.faddr 3 (.tmp 13)))]), (.mk none none (.w (.store 1 (.tmp 178) (.tmp 177))), [], [])]))
  (.ops [.mk (some 167) none (.p (.move (.tmp 18))), .mk (some 168) none (.p (.bin .add .none (.tmp 167) (.lit (.int IntKind.i64 1)))), .mk (some 18) none (.p (.move (.tmp 168)))])))
def c21_l4 : SCode :=
  (.seq (.seq (.ops [.mk (some 190) none (.p (.move (.tmp 21))), .mk (some 191) none (.p (.faddr 1 (.tmp 20))), .mk (some 192) none (.p (.load1 (.tmp 191))), .mk (some 193) none (.call (.lit (.func 22 [])) [.tmp 192]), .mk (some 194) none (.p (.bin .lss .none (.tmp 190) (.tmp 193)))])
  (.cond (.tmp 194)
  .skip
  (.exit 9)))
  (.seq (.block 10 (.draw [.mk (some 197) none (.p (.faddr 3 (.tmp 20))), .mk (some 198) none (.p (.load1 (.tmp 197))), .mk (some 199) none (.p (.move (.tmp 0))), .mk (some 200) none (.p (.loadn 3 (.tmp 4))), .mk (some 201) none (.p (.move (.tmp 21))), .mk (some 202) none (.p (.move (.tmp 2)))] [(.mk (some 203) none (.call (.lit (.func 36 [])) [.tmp 199, .tmp 200, .tmp 201, .tmp 202]), [.mk (some 198) none (.p (.load1 (.tmp 197)))], [.mk (some 204) none (.a (.buildS [.int IntKind.i64 0, .str [], .nils, .nils] 1 [(0, 4, .tmp 203)]))]), (.mk (some 205) none (.w (.append 28 4 72 (.tmp 198) (.tmp 204))), [], [.mk (some 206) none (.p (.faddr 3 (.tmp 20)))]), (.mk none none (.w (.store 1 (.tmp 206) (.tmp 205))), [], [])]))
  (.ops [.mk (some 195) none (.p (.move (.tmp 21))), .mk (some 196) none (.p (.bin .add .none (.tmp 195) (.lit (.int IntKind.i64 1)))), .mk (some 21) none (.p (.move (.tmp 196)))])))
def c21 : SFunc := ⟨208, (.seq (.ops [.mk (some 4) none (.a (.box 50 (.tmp 1))), .mk (some 6) none (.a (.newc 28 [.int IntKind.i64 0, .str [], .nils, .nils]))])
  (.seq (.seq (.ops [.mk (some 22) none (.p (.faddr 0 (.tmp 4))), .mk (some 23) none (.p (.load1 (.tmp 22))), .mk (some 24) none (.call (.lit (.func 35 [])) [.tmp 23, .lit (.int IntKind.i64 16)])])
  (.block 0 (.seq (.ops [.mk (some 26) none (.p (.bin .eql .none (.tmp 24) (.lit (.int IntKind.i64 0)))), .mk (some 25) none (.p (.move (.tmp 26)))])
  (.cond (.tmp 25)
  (.seq (.ops [.mk (some 27) none (.a (.buildS [.str [], .str [], .str [], .str [], .str []] 5 [(0, 1, .lit (.str [48])), (1, 1, .lit (.str [49])), (2, 1, .lit (.str [45, 53])), (3, 1, .lit (.str [55])), (4, 1, .lit (.str [49, 48, 48, 48, 48, 48, 48, 48, 48, 48, 48, 48, 48, 48, 48, 48, 48, 48, 48, 48, 48]))])), .mk (some 28) none (.p (.faddr 1 (.tmp 4))), .mk (some 29) none (.p (.load1 (.tmp 28))), .mk (some 30) none (.call (.lit (.func 35 [])) [.tmp 29, .lit (.int IntKind.i64 5)]), .mk (some 31) none (.p (.iaddr 1 (.tmp 27) (.tmp 30))), .mk (some 32) none (.p (.load1 (.tmp 31))), .mk (some 33) none (.p (.build [.int IntKind.i64 0, .str [], .nils, .nils] [(0, 1, .lit (.int IntKind.i64 1)), (1, 1, .tmp 32)])), .mk none none (.w (.store 4 (.tmp 6) (.tmp 33)))])
  .ret)
  (.seq (.ops [.mk (some 35) none (.p (.bin .eql .none (.tmp 24) (.lit (.int IntKind.i64 1)))), .mk (some 34) none (.p (.move (.tmp 35)))])
  (.cond (.tmp 34)
  (.seq (.ops [.mk (some 36) none (.p (.build [.int IntKind.i64 0, .str [], .nils, .nils] [(0, 1, .lit (.int IntKind.i64 2)), (1, 1, .lit (.str [35, 116]))])), .mk (some 37) none (.p (.build [.int IntKind.i64 0, .str [], .nils, .nils] [(0, 1, .lit (.int IntKind.i64 2)), (1, 1, .lit (.str [35, 102]))])), .mk (some 38) none (.p (.build [.int IntKind.i64 0, .str [], .nils, .nils] [(0, 1, .lit (.int IntKind.i64 3))])), .mk (some 39) none (.p (.build [.int IntKind.i64 0, .str [], .nils, .nils] [(0, 1, .lit (.int IntKind.i64 4)), (1, 1, .lit (.str [115]))])), .mk (some 40) none (.a (.buildS [.int IntKind.i64 0, .str [], .nils, .nils, .int IntKind.i64 0, .str [], .nils, .nils, .int IntKind.i64 0, .str [], .nils, .nils, .int IntKind.i64 0, .str [], .nils, .nils] 4 [(0, 4, .tmp 36), (4, 4, .tmp 37), (8, 4, .tmp 38), (12, 4, .tmp 39)])), .mk (some 41) none (.p (.faddr 1 (.tmp 4))), .mk (some 42) none (.p (.load1 (.tmp 41))), .mk (some 43) none (.call (.lit (.func 35 [])) [.tmp 42, .lit (.int IntKind.i64 4)]), .mk (some 44) none (.p (.iaddr 4 (.tmp 40) (.tmp 43))), .mk (some 45) none (.p (.loadn 4 (.tmp 44))), .mk none none (.w (.store 4 (.tmp 6) (.tmp 45)))])
  .ret)
  (.seq (.seq (.ops [.mk (some 47) none (.p (.bin .eql .none (.tmp 24) (.lit (.int IntKind.i64 2)))), .mk (some 46) none (.p (.move (.tmp 47)))])
  (.cond (.tmp 46)
  .skip
  (.ops [.mk (some 48) none (.p (.bin .eql .none (.tmp 24) (.lit (.int IntKind.i64 3)))), .mk (some 46) none (.p (.move (.tmp 48)))])))
  (.cond (.tmp 46)
  (.seq (.seq (.ops [.mk (some 49) none (.p (.move (.tmp 2))), .mk (some 50) none (.p (.lenS (.tmp 49))), .mk (some 51) none (.p (.bin .gtr .none (.tmp 50) (.lit (.int IntKind.i64 0))))])
  (.cond (.tmp 51)
  (.seq (.ops [.mk (some 52) none (.p (.move (.tmp 2))), .mk (some 53) none (.p (.faddr 1 (.tmp 4))), .mk (some 54) none (.p (.load1 (.tmp 53))), .mk (some 55) none (.p (.move (.tmp 2))), .mk (some 56) none (.p (.lenS (.tmp 55))), .mk (some 57) none (.call (.lit (.func 35 [])) [.tmp 54, .tmp 56]), .mk (some 58) none (.p (.iaddr 1 (.tmp 52) (.tmp 57))), .mk (some 59) none (.p (.load1 (.tmp 58))), .mk (some 60) none (.call (.lit (.func 17 [])) [.tmp 59]), .mk none none (.w (.store 4 (.tmp 6) (.tmp 60)))])
  .ret)
  .skip))
  (.seq (.ops [.mk (some 61) none (.p (.build [.int IntKind.i64 0, .str [], .nils, .nils] [(0, 1, .lit (.int IntKind.i64 3))])), .mk none none (.w (.store 4 (.tmp 6) (.tmp 61)))])
  .ret))
  (.seq (.seq (.ops [.mk (some 63) none (.p (.bin .eql .none (.tmp 24) (.lit (.int IntKind.i64 4)))), .mk (some 62) none (.p (.move (.tmp 63)))])
  (.cond (.tmp 62)
  .skip
  (.ops [.mk (some 64) none (.p (.bin .eql .none (.tmp 24) (.lit (.int IntKind.i64 5)))), .mk (some 62) none (.p (.move (.tmp 64)))])))
  (.cond (.tmp 62)
  (.seq (.ops [.mk (some 65) none (.p (.build [.int IntKind.i64 0, .str [], .nils, .nils] [(0, 1, .lit (.int IntKind.i64 6))])), .mk (some 7) none (.a (.newc 28 [.int IntKind.i64 0, .str [], .nils, .nils])), .mk none none (.w (.store 4 (.tmp 7) (.tmp 65)))])
  (.seq (.ops [.mk (some 66) none (.a (.buildS [] 0 [])), .mk (some 67) none (.p (.move (.tmp 2))), .mk (some 68) none (.w (.append 9 1 16 (.tmp 66) (.tmp 67))), .mk (some 8) none (.p (.move (.tmp 68)))])
  (.seq (.seq (.ops [.mk (some 9) none (.p (.move (.lit (.int IntKind.i64 0))))])
  (.block 1 (.loop c21_l0)))
  (.seq (.ops [.mk (some 88) none (.p (.move (.tmp 0))), .mk (some 89) none (.p (.loadn 3 (.tmp 4))), .mk (some 90) none (.p (.move (.tmp 8))), .mk (some 91) none (.call (.lit (.func 36 [])) [.tmp 88, .tmp 89, .lit (.int IntKind.i64 0), .tmp 90]), .mk (some 92) none (.a (.buildS [.int IntKind.i64 0, .str [], .nils, .nils] 1 [(0, 4, .tmp 91)])), .mk (some 93) none (.p (.faddr 3 (.tmp 7))), .mk none none (.w (.store 1 (.tmp 93) (.tmp 92)))])
  (.seq (.ops [.mk (some 94) none (.p (.loadn 4 (.tmp 7))), .mk none none (.w (.store 4 (.tmp 6) (.tmp 94)))])
  .ret)))))
  (.seq (.seq (.ops [.mk (some 96) none (.p (.bin .eql .none (.tmp 24) (.lit (.int IntKind.i64 6)))), .mk (some 95) none (.p (.move (.tmp 96)))])
  (.cond (.tmp 95)
  .skip
  (.seq (.ops [.mk (some 97) none (.p (.bin .eql .none (.tmp 24) (.lit (.int IntKind.i64 7)))), .mk (some 95) none (.p (.move (.tmp 97)))])
  (.cond (.tmp 95)
  .skip
  (.ops [.mk (some 98) none (.p (.bin .eql .none (.tmp 24) (.lit (.int IntKind.i64 8)))), .mk (some 95) none (.p (.move (.tmp 98)))])))))
  (.cond (.tmp 95)
  (.seq (.ops [.mk (some 99) none (.p (.build [.int IntKind.i64 0, .str [], .nils, .nils] [(0, 1, .lit (.int IntKind.i64 7))])), .mk (some 11) none (.a (.newc 28 [.int IntKind.i64 0, .str [], .nils, .nils])), .mk none none (.w (.store 4 (.tmp 11) (.tmp 99)))])
  (.seq (.seq (.ops [.mk (some 12) none (.p (.move (.lit (.int IntKind.i64 0))))])
  (.block 3 (.loop c21_l1)))
  (.seq (.ops [.mk (some 118) none (.p (.loadn 4 (.tmp 11))), .mk none none (.w (.store 4 (.tmp 6) (.tmp 118)))])
  .ret)))
  (.seq (.ops [.mk (some 120) none (.p (.bin .eql .none (.tmp 24) (.lit (.int IntKind.i64 9)))), .mk (some 119) none (.p (.move (.tmp 120)))])
  (.cond (.tmp 119)
  (.seq (.draw [.mk (some 121) none (.p (.move (.tmp 0))), .mk (some 122) none (.p (.loadn 3 (.tmp 4))), .mk (some 123) none (.p (.move (.tmp 2))), .mk (some 125) none (.p (.move (.tmp 0))), .mk (some 126) none (.p (.loadn 3 (.tmp 4))), .mk (some 127) none (.p (.move (.tmp 2))), .mk (some 129) none (.p (.move (.tmp 0))), .mk (some 130) none (.p (.loadn 3 (.tmp 4))), .mk (some 131) none (.p (.move (.tmp 2)))] [(.mk (some 124) none (.call (.lit (.func 36 [])) [.tmp 121, .tmp 122, .lit (.int IntKind.i64 0), .tmp 123]), [.mk (some 126) none (.p (.loadn 3 (.tmp 4))), .mk (some 130) none (.p (.loadn 3 (.tmp 4)))], []), (.mk (some 128) none (.call (.lit (.func 36 [])) [.tmp 125, .tmp 126, .lit (.int IntKind.i64 1), .tmp 127]), [.mk (some 130) none (.p (.loadn 3 (.tmp 4)))], []), (.mk (some 132) none (.call (.lit (.func 36 [])) [.tmp 129, .tmp 130, .lit (.int IntKind.i64 2), .tmp 131]), [], [.mk (some 133) none (.a (.buildS [.int IntKind.i64 0, .str [], .nils, .nils, .int IntKind.i64 0, .str [], .nils, .nils, .int IntKind.i64 0, .str [], .nils, .nils] 3 [(0, 4, .tmp 124), (4, 4, .tmp 128), (8, 4, .tmp 132)])), .mk (some 134) none (.p (.build [.int IntKind.i64 0, .str [], .nils, .nils] [(0, 1, .lit (.int IntKind.i64 8)), (3, 1, .tmp 133)]))]), (.mk none none (.w (.store 4 (.tmp 6) (.tmp 134))), [], [])])
  .ret)
  (.seq (.seq (.ops [.mk (some 136) none (.p (.bin .eql .none (.tmp 24) (.lit (.int IntKind.i64 10)))), .mk (some 135) none (.p (.move (.tmp 136)))])
  (.cond (.tmp 135)
  .skip
  (.seq (.ops [.mk (some 137) none (.p (.bin .eql .none (.tmp 24) (.lit (.int IntKind.i64 11)))), .mk (some 135) none (.p (.move (.tmp 137)))])
  (.cond (.tmp 135)
  .skip
  (.ops [.mk (some 138) none (.p (.bin .eql .none (.tmp 24) (.lit (.int IntKind.i64 12)))), .mk (some 135) none (.p (.move (.tmp 138)))])))))
  (.cond (.tmp 135)
  (.seq (.ops [.mk (some 139) none (.p (.build [.int IntKind.i64 0, .str [], .nils, .nils] [(0, 1, .lit (.int IntKind.i64 9))])), .mk (some 13) none (.a (.newc 28 [.int IntKind.i64 0, .str [], .nils, .nils])), .mk none none (.w (.store 4 (.tmp 13) (.tmp 139)))])
  (.seq (.ops [.mk (some 140) none (.a (.buildS [] 0 [])), .mk (some 141) none (.p (.move (.tmp 2))), .mk (some 142) none (.w (.append 9 1 16 (.tmp 140) (.tmp 141))), .mk (some 14) none (.p (.move (.tmp 142)))])
  (.seq (.ops [.mk (some 143) none (.p (.faddr 1 (.tmp 4))), .mk (some 144) none (.p (.load1 (.tmp 143))), .mk (some 145) none (.call (.lit (.func 35 [])) [.tmp 144, .lit (.int IntKind.i64 2)]), .mk (some 146) none (.p (.bin .add .none (.lit (.int IntKind.i64 1)) (.tmp 145))), .mk (some 15) none (.p (.move (.tmp 146)))])
  (.seq (.seq (.ops [.mk (some 16) none (.p (.move (.lit (.int IntKind.i64 0))))])
  (.block 5 (.loop c21_l2)))
  (.seq (.seq (.ops [.mk (some 18) none (.p (.move (.lit (.int IntKind.i64 0))))])
  (.block 7 (.loop c21_l3)))
  (.seq (.ops [.mk (some 179) none (.p (.loadn 4 (.tmp 13))), .mk none none (.w (.store 4 (.tmp 6) (.tmp 179)))])
  .ret))))))
  .skip))))))))))))))))
  (.seq (.ops [.mk (some 180) none (.a (.buildS [.str [], .str [], .str [], .str [], .str [], .str [], .str [], .str [], .str [], .str [], .str [], .str [], .str [], .str [], .str [], .str [], .str [], .str [], .str [], .str [], .str []] 21 [(0, 1, .lit (.str [43])), (1, 1, .lit (.str [45])), (2, 1, .lit (.str [42])), (3, 1, .lit (.str [113, 117, 111, 116, 105, 101, 110, 116])), (4, 1, .lit (.str [114, 101, 109, 97, 105, 110, 100, 101, 114])), (5, 1, .lit (.str [60])), (6, 1, .lit (.str [61])), (7, 1, .lit (.str [101, 113, 63])), (8, 1, .lit (.str [99, 111, 110, 115])), (9, 1, .lit (.str [115, 101, 113])), (10, 1, .lit (.str [99, 97, 114])), (11, 1, .lit (.str [99, 100, 114])), (12, 1, .lit (.str [110, 117, 108, 108, 63])), (13, 1, .lit (.str [112, 97, 105, 114, 63])), (14, 1, .lit (.str [110, 111, 116])), (15, 1, .lit (.str [105, 110, 116, 101, 103, 101, 114, 63])), (16, 1, .lit (.str [115, 121, 109, 98, 111, 108, 63])), (17, 1, .lit (.str [101, 114, 114, 111, 114])), (18, 1, .lit (.str [99, 111, 110, 115])), (19, 1, .lit (.str [43])), (20, 1, .lit (.str [99, 97, 114]))])), .mk (some 19) none (.p (.move (.tmp 180)))])
  (.seq (.ops [.mk (some 181) none (.p (.move (.tmp 19))), .mk (some 182) none (.p (.faddr 1 (.tmp 4))), .mk (some 183) none (.p (.load1 (.tmp 182))), .mk (some 184) none (.p (.move (.tmp 19))), .mk (some 185) none (.p (.lenS (.tmp 184))), .mk (some 186) none (.call (.lit (.func 35 [])) [.tmp 183, .tmp 185]), .mk (some 187) none (.p (.iaddr 1 (.tmp 181) (.tmp 186))), .mk (some 188) none (.p (.load1 (.tmp 187))), .mk (some 189) none (.p (.build [.int IntKind.i64 0, .str [], .nils, .nils] [(0, 1, .lit (.int IntKind.i64 10)), (1, 1, .tmp 188)])), .mk (some 20) none (.a (.newc 28 [.int IntKind.i64 0, .str [], .nils, .nils])), .mk none none (.w (.store 4 (.tmp 20) (.tmp 189)))])
  (.seq (.seq (.ops [.mk (some 21) none (.p (.move (.lit (.int IntKind.i64 0))))])
  (.block 9 (.loop c21_l4)))
  (.seq (.ops [.mk (some 207) none (.p (.loadn 4 (.tmp 20))), .mk none none (.w (.store 4 (.tmp 6) (.tmp 207)))])
  .ret)))))), [.celln 6 4]⟩
theorem code21 (own : OwnT) (mode : FuncId → Nat) : (slimPrg Tryd.prog own mode).code 21 = some c21 := by kernel_rfl
-- thunk/thunkref5.Arity
def c22_l0 : SCode :=
  (.seq (.seq (.ops [.mk (some 6) none (.p (.move (.tmp 4))), .mk (some 7) none (.p (.move (.tmp 3))), .mk (some 8) none (.p (.lenS (.tmp 7))), .mk (some 9) none (.p (.bin .lss .none (.tmp 6) (.tmp 8)))])
  (.cond (.tmp 9)
  .skip
  (.exit 0)))
  (.seq (.block 1 (.seq (.ops [.mk (some 12) none (.p (.move (.tmp 3))), .mk (some 13) none (.p (.move (.tmp 4))), .mk (some 14) none (.p (.iaddr 1 (.tmp 12) (.tmp 13))), .mk (some 15) none (.p (.load1 (.tmp 14))), .mk (some 16) none (.p (.move (.tmp 0))), .mk (some 17) none (.p (.bin .eql .none (.tmp 15) (.tmp 16)))])
  (.cond (.tmp 17)
  (.seq (.seq (.ops [.mk (some 18) none (.p (.move (.tmp 4))), .mk (some 19) none (.p (.bin .lss .none (.tmp 18) (.lit (.int IntKind.i64 10))))])
  (.cond (.tmp 19)
  (.seq (.ops [.mk (some 2) none (.p (.move (.lit (.int IntKind.i64 2))))])
  .ret)
  .skip))
  (.seq (.ops [.mk (some 2) none (.p (.move (.lit (.int IntKind.i64 1))))])
  .ret))
  .skip)))
  (.ops [.mk (some 10) none (.p (.move (.tmp 4))), .mk (some 11) none (.p (.bin .add .none (.tmp 10) (.lit (.int IntKind.i64 1)))), .mk (some 4) none (.p (.move (.tmp 11)))])))
def c22 : SFunc := ⟨20, (.seq (.ops [.mk (some 2) none (.p (.move (.lit (.int IntKind.i64 0))))])
  (.seq (.ops [.mk (some 5) none (.a (.buildS [.str [], .str [], .str [], .str [], .str [], .str [], .str [], .str [], .str [], .str [], .str [], .str [], .str [], .str [], .str [], .str [], .str [], .str []] 18 [(0, 1, .lit (.str [43])), (1, 1, .lit (.str [45])), (2, 1, .lit (.str [42])), (3, 1, .lit (.str [113, 117, 111, 116, 105, 101, 110, 116])), (4, 1, .lit (.str [114, 101, 109, 97, 105, 110, 100, 101, 114])), (5, 1, .lit (.str [60])), (6, 1, .lit (.str [61])), (7, 1, .lit (.str [101, 113, 63])), (8, 1, .lit (.str [99, 111, 110, 115])), (9, 1, .lit (.str [115, 101, 113])), (10, 1, .lit (.str [99, 97, 114])), (11, 1, .lit (.str [99, 100, 114])), (12, 1, .lit (.str [110, 117, 108, 108, 63])), (13, 1, .lit (.str [112, 97, 105, 114, 63])), (14, 1, .lit (.str [110, 111, 116])), (15, 1, .lit (.str [105, 110, 116, 101, 103, 101, 114, 63])), (16, 1, .lit (.str [115, 121, 109, 98, 111, 108, 63])), (17, 1, .lit (.str [101, 114, 114, 111, 114]))])), .mk (some 3) none (.p (.move (.tmp 5)))])
  (.seq (.seq (.ops [.mk (some 4) none (.p (.move (.lit (.int IntKind.i64 0))))])
  (.block 0 (.loop c22_l0)))
  (.seq (.ops [.mk (some 2) none (.p (.move (.lit (.int IntKind.i64 0))))])
  .ret)))), [.tmp 2]⟩
theorem code22 (own : OwnT) (mode : FuncId → Nat) : (slimPrg Tryd.prog own mode).code 22 = some c22 := by kernel_rfl
-- thunk/thunklaw5.size
def c23_l0 : SCode :=
  (.seq (.seq (.ops [.mk (some 9) none (.p (.move (.tmp 6))), .mk (some 10) none (.p (.move (.tmp 0))), .mk (some 11) none (.p (.lenS (.tmp 10))), .mk (some 12) none (.p (.bin .lss .none (.tmp 9) (.tmp 11))), .mk (some 13) none (.p (.move (.tmp 12))), .mk (some 14) (some (13, true)) (.p (.move (.tmp 5))), .mk (some 15) (some (13, true)) (.p (.bin .leq .none (.tmp 14) (.lit (.int IntKind.i64 40)))), .mk (some 16) none (.p (.pick (.tmp 13) (.tmp 15) (.lit (.bool false))))])
  (.cond (.tmp 16)
  .skip
  (.exit 0)))
  (.seq (.block 1 (.ops [.mk (some 19) none (.p (.move (.tmp 5))), .mk (some 20) none (.p (.bin .add .none (.tmp 19) (.lit (.int IntKind.i64 1)))), .mk (some 21) none (.p (.move (.tmp 0))), .mk (some 22) none (.p (.move (.tmp 6))), .mk (some 23) none (.p (.iaddr 3 (.tmp 21) (.tmp 22))), .mk (some 24) none (.p (.faddr 2 (.tmp 23))), .mk (some 25) none (.p (.load1 (.tmp 24))), .mk (some 26) none (.p (.move (.tmp 1))), .mk (some 27) none (.p (.bin .add .none (.tmp 26) (.lit (.int IntKind.i64 1)))), .mk (some 28) none (.call (.lit (.func 23 [])) [.tmp 25, .tmp 27]), .mk (some 29) none (.p (.bin .add .none (.tmp 20) (.tmp 28))), .mk (some 5) none (.p (.move (.tmp 29)))]))
  (.ops [.mk (some 17) none (.p (.move (.tmp 6))), .mk (some 18) none (.p (.bin .add .none (.tmp 17) (.lit (.int IntKind.i64 1)))), .mk (some 6) none (.p (.move (.tmp 18)))])))
def c23 : SFunc := ⟨31, (.seq (.ops [.mk (some 4) none (.p (.move (.lit (.int IntKind.i64 0))))])
  (.seq (.seq (.ops [.mk (some 7) none (.p (.move (.tmp 1))), .mk (some 8) none (.p (.bin .gtr .none (.tmp 7) (.lit (.int IntKind.i64 12))))])
  (.cond (.tmp 8)
  (.seq (.ops [.mk (some 4) none (.p (.move (.lit (.int IntKind.i64 1000))))])
  .ret)
  .skip))
  (.seq (.ops [.mk (some 5) none (.p (.move (.lit (.int IntKind.i64 0))))])
  (.seq (.seq (.ops [.mk (some 6) none (.p (.move (.lit (.int IntKind.i64 0))))])
  (.block 0 (.loop c23_l0)))
  (.seq (.ops [.mk (some 30) none (.p (.move (.tmp 5))), .mk (some 4) none (.p (.move (.tmp 30)))])
  .ret))))), [.tmp 4]⟩
theorem code23 (own : OwnT) (mode : FuncId → Nat) : (slimPrg Tryd.prog own mode).code 23 = some c23 := by kernel_rfl
-- (*thunk/thunklaw5.Maker).name
def c24 : SFunc := ⟨16, (.seq (.ops [.mk (some 2) none (.p (.move (.lit (.str []))))])
  (.seq (.ops [.mk (some 3) none (.p (.move (.tmp 0))), .mk (some 4) none (.p (.nilchk (.tmp 3))), .mk (some 5) none (.p (.faddr 0 (.tmp 4))), .mk (some 6) none (.p (.load1 (.tmp 5))), .mk (some 7) none (.p (.bin .add .none (.tmp 6) (.lit (.int IntKind.i64 1)))), .mk (some 8) none (.p (.nilchk (.tmp 3))), .mk (some 9) none (.p (.faddr 0 (.tmp 8))), .mk none none (.w (.store 1 (.tmp 9) (.tmp 7)))])
  (.seq (.ops [.mk (some 10) none (.p (.move (.tmp 0))), .mk (some 11) none (.p (.nilchk (.tmp 10))), .mk (some 12) none (.p (.faddr 0 (.tmp 11))), .mk (some 13) none (.p (.load1 (.tmp 12))), .mk (some 14) none (.call (.lit (.func 37 [])) [.tmp 13]), .mk (some 15) none (.p (.bin .add .none (.lit (.str [118, 46])) (.tmp 14))), .mk (some 2) none (.p (.move (.tmp 15)))])
  .ret))), [.tmp 2]⟩
theorem code24 (own : OwnT) (mode : FuncId → Nat) : (slimPrg Tryd.prog own mode).code 24 = some c24 := by kernel_rfl
-- thunk/natural.done
def c25 : SFunc := ⟨6, (.seq (.ops [.mk (some 1) none (.a (.box 71 (.tmp 0))), .mk (some 2) none (.p (.move (.lit .nilp)))])
  (.seq (.ops [.mk (some 3) none (.p (.loadn 10 (.tmp 1))), .mk (some 4) none (.p (.build [.int IntKind.i64 0, .str [], .nilp, .nilp, .int IntKind.i64 0, .str [], .nils, .nils, .nilp, .nils, .int IntKind.i64 0, .str [], .nils, .nils, .nilp, .bool false, .bool false] [(0, 10, .tmp 3), (15, 1, .lit (.bool true))])), .mk (some 5) none (.a (.box 96 (.tmp 4))), .mk (some 2) none (.p (.move (.tmp 5)))])
  .ret)), [.tmp 2]⟩
theorem code25 (own : OwnT) (mode : FuncId → Nat) : (slimPrg Tryd.prog own mode).code 25 = some c25 := by kernel_rfl
-- thunk/natural.Eval$1
def c26 : SFunc := ⟨28, (.seq (.draw [.mk (some 7) none (.p (.load1 (.tmp 0))), .mk (some 8) none (.p (.nilchk (.tmp 7))), .mk (some 9) none (.p (.faddr 0 (.tmp 8))), .mk (some 10) none (.p (.load1 (.tmp 9))), .mk (some 11) none (.p (.nilchk (.tmp 10))), .mk (some 12) none (.p (.faddr 0 (.tmp 11))), .mk (some 13) none (.p (.load1 (.tmp 12))), .mk (some 14) none (.p (.load1 (.tmp 0))), .mk (some 15) none (.p (.nilchk (.tmp 14))), .mk (some 16) none (.p (.faddr 0 (.tmp 15))), .mk (some 17) none (.p (.load1 (.tmp 16))), .mk (some 18) none (.p (.nilchk (.tmp 17))), .mk (some 19) none (.p (.faddr 1 (.tmp 18))), .mk (some 20) none (.p (.load1 (.tmp 19)))] [(.mk none none (.w (.store 1 (.tmp 1) (.tmp 13))), [], []), (.mk none none (.w (.store 1 (.tmp 2) (.tmp 20))), [], [])])
  (.seq (.ops [.mk none none (.p (.nilchk (.lit .undef)))])
  (.block 0 (.seq (.ops [.mk none none (.p (.nilchk (.lit .undef)))])
  (.cond (.tmp 23)
  (.ops [.mk (some 4) none (.p (.move (.tmp 21)))])
  (.seq (.ops [.mk (some 24) none (.p (.assertOk (.tmp 21) 72 (.agg [.int IntKind.i64 0, .str [], .int IntKind.i64 0]))), .mk (some 25) none (.p (.extract (.tmp 24) 1)), .mk (some 26) none (.p (.extract (.tmp 24) 0))])
  (.cond (.tmp 25)
  (.seq (.ops [.mk (some 5) none (.a (.newc 72 [.int IntKind.i64 0, .str [], .int IntKind.i64 0])), .mk none none (.w (.store 3 (.tmp 5) (.tmp 26)))])
  (.ops [.mk (some 27) none (.p (.loadn 3 (.tmp 5))), .mk none none (.w (.store 3 (.tmp 3) (.tmp 27)))]))
  (.seq (.ops [.mk (some 6) none (.p (.move (.tmp 21)))])
  (.ops [.mk (some 22) none (.p (.move (.tmp 6))), .mk none none (.panic (.tmp 22))]))))))))), []⟩
theorem code26 (own : OwnT) (mode : FuncId → Nat) : (slimPrg Tryd.prog own mode).code 26 = some c26 := by kernel_rfl
-- (*thunk/natural.work).print
def c27_l0 : SCode :=
  (.block 2 (.seq (.ops [.mk (some 20) none (.p (.move (.tmp 0))), .mk (some 21) none (.p (.move (.tmp 0))), .mk (some 22) none (.p (.faddr 2 (.tmp 3))), .mk (some 23) none (.p (.load1 (.tmp 22))), .mk (some 24) none (.call (.lit (.func 39 [])) [.tmp 21, .tmp 23]), .mk (some 25) none (.call (.lit (.func 27 [])) [.tmp 20, .tmp 24])])
  (.seq (.seq (.ops [.mk (some 26) none (.p (.move (.tmp 0))), .mk (some 27) none (.p (.faddr 3 (.tmp 3))), .mk (some 28) none (.p (.load1 (.tmp 27))), .mk (some 29) none (.call (.lit (.func 39 [])) [.tmp 26, .tmp 28]), .mk none none (.w (.store 10 (.tmp 3) (.tmp 29)))])
  (.seq (.ops [.mk (some 30) none (.p (.faddr 0 (.tmp 3))), .mk (some 31) none (.p (.load1 (.tmp 30))), .mk (some 32) none (.p (.bin .neq .none (.tmp 31) (.lit (.int IntKind.i64 5))))])
  (.cond (.tmp 32)
  (.exit 1)
  .skip)))
  (.ops [.mk (some 33) none (.p (.move (.tmp 0))), .mk (some 34) none (.call (.lit (.func 38 [])) [.tmp 33, .lit (.str [32])])]))))
def c27 : SFunc := ⟨45, (.seq (.ops [.mk (some 3) none (.a (.box 71 (.tmp 1)))])
  (.seq (.block 0 (.seq (.ops [.mk (some 5) none (.p (.faddr 0 (.tmp 3))), .mk (some 6) none (.p (.load1 (.tmp 5))), .mk (some 7) none (.p (.bin .lss .none (.tmp 6) (.lit (.int IntKind.i64 5)))), .mk (some 4) none (.p (.move (.tmp 7)))])
  (.cond (.tmp 4)
  (.seq (.ops [.mk (some 8) none (.p (.move (.tmp 0))), .mk (some 9) none (.p (.faddr 1 (.tmp 3))), .mk (some 10) none (.p (.load1 (.tmp 9))), .mk (some 11) none (.call (.lit (.func 38 [])) [.tmp 8, .tmp 10])])
  .ret)
  (.seq (.ops [.mk (some 13) none (.p (.faddr 0 (.tmp 3))), .mk (some 14) none (.p (.load1 (.tmp 13))), .mk (some 15) none (.p (.bin .eql .none (.tmp 14) (.lit (.int IntKind.i64 6)))), .mk (some 12) none (.p (.move (.tmp 15)))])
  (.cond (.tmp 12)
  (.seq (.ops [.mk (some 16) none (.p (.move (.tmp 0))), .mk (some 17) none (.call (.lit (.func 38 [])) [.tmp 16, .lit (.str [35, 60, 102, 117, 110, 99, 116, 105, 111, 110, 62])])])
  .ret)
  .skip)))))
  (.seq (.ops [.mk (some 18) none (.p (.move (.tmp 0))), .mk (some 19) none (.call (.lit (.func 38 [])) [.tmp 18, .lit (.str [40])])])
  (.seq (.block 1 (.loop c27_l0))
  (.seq (.seq (.ops [.mk (some 35) none (.p (.faddr 0 (.tmp 3))), .mk (some 36) none (.p (.load1 (.tmp 35))), .mk (some 37) none (.p (.bin .neq .none (.tmp 36) (.lit (.int IntKind.i64 3))))])
  (.cond (.tmp 37)
  (.seq (.ops [.mk (some 38) none (.p (.move (.tmp 0))), .mk (some 39) none (.call (.lit (.func 38 [])) [.tmp 38, .lit (.str [32, 46, 32])])])
  (.ops [.mk (some 40) none (.p (.move (.tmp 0))), .mk (some 41) none (.p (.loadn 10 (.tmp 3))), .mk (some 42) none (.call (.lit (.func 27 [])) [.tmp 40, .tmp 41])]))
  .skip))
  (.ops [.mk (some 43) none (.p (.move (.tmp 0))), .mk (some 44) none (.call (.lit (.func 38 [])) [.tmp 43, .lit (.str [41])])])))))), []⟩
theorem code27 (own : OwnT) (mode : FuncId → Nat) : (slimPrg Tryd.prog own mode).code 27 = some c27 := by kernel_rfl
-- (*thunk/natural.work).reckon
def c28_l0 : SCode :=
  (.seq (.ops [.mk (some 52) none (.p (.bin .lss .none (.tmp 51) (.tmp 50)))])
  (.seq (.cond (.tmp 52)
  .skip
  (.exit 1))
  (.seq (.block 2 (.seq (.ops [.mk (some 53) none (.p (.iaddr 4 (.tmp 49) (.tmp 51))), .mk (some 54) none (.p (.loadn 4 (.tmp 53))), .mk (some 10) none (.a (.newc 28 [.int IntKind.i64 0, .str [], .nils, .nils])), .mk none none (.w (.store 4 (.tmp 10) (.tmp 54)))])
  (.ops [.mk (some 55) none (.p (.move (.tmp 8))), .mk (some 56) none (.p (.loadn 4 (.tmp 10))), .mk (some 57) none (.p (.move (.tmp 2))), .mk (some 58) none (.call (.lit (.func 42 [])) [.tmp 56, .tmp 57]), .mk (some 59) none (.a (.buildS [.nilp] 1 [(0, 1, .tmp 58)])), .mk (some 60) none (.w (.append 66 1 8 (.tmp 55) (.tmp 59))), .mk (some 8) none (.p (.move (.tmp 60)))])))
  (.ops [.mk (some 61) none (.p (.bin .add .none (.tmp 51) (.lit (.int IntKind.i64 1)))), .mk (some 51) none (.p (.move (.tmp 61)))]))))
def c28_l1 : SCode :=
  (.seq (.ops [.mk (some 106) none (.p (.bin .lss .none (.tmp 105) (.tmp 104)))])
  (.seq (.cond (.tmp 106)
  .skip
  (.exit 3))
  (.seq (.block 4 (.seq (.ops [.mk (some 107) none (.p (.move (.tmp 105))), .mk (some 108) none (.p (.iaddr 1 (.tmp 103) (.tmp 105))), .mk (some 109) none (.p (.load1 (.tmp 108))), .mk (some 14) none (.p (.move (.tmp 107))), .mk (some 15) none (.p (.move (.tmp 109)))])
  (.seq (.ops [.mk (some 110) none (.p (.move (.tmp 13))), .mk (some 111) none (.p (.faddr 3 (.tmp 4))), .mk (some 112) none (.p (.load1 (.tmp 111))), .mk (some 113) none (.p (.move (.tmp 14))), .mk (some 114) none (.p (.iaddr 4 (.tmp 112) (.tmp 113))), .mk (some 115) none (.p (.loadn 4 (.tmp 114))), .mk (some 116) none (.p (.build [.int IntKind.i64 0, .str [], .nilp, .nilp, .int IntKind.i64 0, .str [], .nils, .nils, .nilp, .nils, .int IntKind.i64 0, .str [], .nils, .nils, .nilp, .bool false, .bool false] [(10, 4, .tmp 115)])), .mk (some 117) none (.a (.box 96 (.tmp 116))), .mk (some 118) none (.a (.buildS [.nilp] 1 [(0, 1, .tmp 117)])), .mk (some 119) none (.w (.append 66 1 8 (.tmp 110) (.tmp 118))), .mk (some 13) none (.p (.move (.tmp 119)))])
  (.ops [.mk (some 120) none (.p (.move (.tmp 15))), .mk (some 121) none (.p (.move (.tmp 13))), .mk (some 122) none (.p (.move (.tmp 14))), .mk (some 123) none (.p (.iaddr 1 (.tmp 121) (.tmp 122))), .mk (some 124) none (.p (.load1 (.tmp 123))), .mk (some 125) none (.p (.move (.tmp 2))), .mk (some 126) none (.p (.build [.str [], .nilp, .nilp] [(0, 1, .tmp 120), (1, 1, .tmp 124), (2, 1, .tmp 125)])), .mk (some 127) none (.a (.box 76 (.tmp 126))), .mk (some 2) none (.p (.move (.tmp 127)))]))))
  (.ops [.mk (some 128) none (.p (.bin .add .none (.tmp 105) (.lit (.int IntKind.i64 1)))), .mk (some 105) none (.p (.move (.tmp 128)))]))))
def c28_l2 : SCode :=
  (.seq (.ops [.mk (some 132) none (.p (.bin .lss .none (.tmp 131) (.tmp 130)))])
  (.seq (.cond (.tmp 132)
  .skip
  (.exit 5))
  (.seq (.block 6 (.seq (.ops [.mk (some 133) none (.p (.iaddr 1 (.tmp 129) (.tmp 131))), .mk (some 134) none (.p (.load1 (.tmp 133))), .mk (some 17) none (.p (.move (.tmp 134)))])
  (.ops [.mk (some 135) none (.p (.move (.tmp 17))), .mk (some 136) none (.p (.move (.tmp 2))), .mk (some 137) none (.p (.nilchk (.tmp 135))), .mk (some 138) none (.p (.faddr 14 (.tmp 137))), .mk none none (.w (.store 1 (.tmp 138) (.tmp 136)))])))
  (.ops [.mk (some 139) none (.p (.bin .add .none (.tmp 131) (.lit (.int IntKind.i64 1)))), .mk (some 131) none (.p (.move (.tmp 139)))]))))
def c28 : SFunc := ⟨171, (.seq (.ops [.mk (some 4) none (.a (.box 28 (.tmp 1))), .mk (some 6) none (.a (.newc 71 [.int IntKind.i64 0, .str [], .nilp, .nilp, .int IntKind.i64 0, .str [], .nils, .nils, .nilp, .nils]))])
  (.seq (.ops [.mk (some 18) none (.p (.move (.tmp 0))), .mk (some 19) none (.p (.nilchk (.tmp 18))), .mk (some 20) none (.p (.faddr 0 (.tmp 19))), .mk (some 21) none (.p (.load1 (.tmp 20))), .mk (some 22) none (.call (.lit (.func 40 [])) [.tmp 21])])
  (.seq (.seq (.ops [.mk (some 23) none (.p (.faddr 0 (.tmp 4))), .mk (some 24) none (.p (.load1 (.tmp 23)))])
  (.block 0 (.seq (.ops [.mk (some 26) none (.p (.bin .eql .none (.tmp 24) (.lit (.int IntKind.i64 5)))), .mk (some 25) none (.p (.move (.tmp 26)))])
  (.cond (.tmp 25)
  (.seq (.ops [.mk (some 27) none (.p (.move (.tmp 0))), .mk (some 28) none (.p (.move (.tmp 2))), .mk (some 29) none (.p (.faddr 1 (.tmp 4))), .mk (some 30) none (.p (.load1 (.tmp 29))), .mk (some 31) none (.call (.lit (.func 41 [])) [.tmp 28, .tmp 30]), .mk (some 32) none (.call (.lit (.func 39 [])) [.tmp 27, .tmp 31]), .mk none none (.w (.store 10 (.tmp 6) (.tmp 32)))])
  .ret)
  (.seq (.ops [.mk (some 34) none (.p (.bin .eql .none (.tmp 24) (.lit (.int IntKind.i64 6)))), .mk (some 33) none (.p (.move (.tmp 34)))])
  (.cond (.tmp 33)
  (.seq (.ops [.mk (some 35) none (.p (.loadn 4 (.tmp 4))), .mk (some 36) none (.p (.move (.tmp 2))), .mk (some 37) none (.p (.build [.int IntKind.i64 0, .str [], .nilp, .nilp, .int IntKind.i64 0, .str [], .nils, .nils, .nilp, .nils] [(0, 1, .lit (.int IntKind.i64 6)), (4, 4, .tmp 35), (8, 1, .tmp 36)])), .mk none none (.w (.store 10 (.tmp 6) (.tmp 37)))])
  .ret)
  (.seq (.ops [.mk (some 39) none (.p (.bin .eql .none (.tmp 24) (.lit (.int IntKind.i64 7)))), .mk (some 38) none (.p (.move (.tmp 39)))])
  (.cond (.tmp 38)
  (.seq (.ops [.mk (some 40) none (.p (.move (.tmp 0))), .mk (some 41) none (.p (.faddr 3 (.tmp 4))), .mk (some 42) none (.p (.load1 (.tmp 41))), .mk (some 43) none (.p (.iaddr 4 (.tmp 42) (.lit (.int IntKind.i64 0)))), .mk (some 44) none (.p (.loadn 4 (.tmp 43))), .mk (some 45) none (.p (.move (.tmp 2))), .mk (some 46) none (.call (.lit (.func 28 [])) [.tmp 40, .tmp 44, .tmp 45]), .mk (some 7) none (.a (.newc 71 [.int IntKind.i64 0, .str [], .nilp, .nilp, .int IntKind.i64 0, .str [], .nils, .nils, .nilp, .nils])), .mk none none (.w (.store 10 (.tmp 7) (.tmp 46)))])
  (.seq (.ops [.mk (some 8) none (.p (.move (.lit .nils)))])
  (.seq (.seq (.ops [.mk (some 47) none (.p (.faddr 3 (.tmp 4))), .mk (some 48) none (.p (.load1 (.tmp 47))), .mk (some 49) none (.p (.sliceS 4 (.tmp 48) (some (.lit (.int IntKind.i64 1))) none none)), .mk (some 50) none (.p (.lenS (.tmp 49))), .mk (some 51) none (.p (.move (.lit (.int IntKind.i64 0))))])
  (.block 1 (.loop c28_l0)))
  (.seq (.ops [.mk (some 62) none (.p (.move (.tmp 0))), .mk (some 63) none (.p (.loadn 10 (.tmp 7))), .mk (some 64) none (.p (.move (.tmp 8))), .mk (some 65) none (.call (.lit (.func 43 [])) [.tmp 62, .tmp 63, .tmp 64]), .mk none none (.w (.store 10 (.tmp 6) (.tmp 65)))])
  .ret))))
  (.seq (.ops [.mk (some 67) none (.p (.bin .eql .none (.tmp 24) (.lit (.int IntKind.i64 8)))), .mk (some 66) none (.p (.move (.tmp 67)))])
  (.cond (.tmp 66)
  (.seq (.seq (.ops [.mk (some 68) none (.p (.move (.tmp 0))), .mk (some 69) none (.p (.faddr 3 (.tmp 4))), .mk (some 70) none (.p (.load1 (.tmp 69))), .mk (some 71) none (.p (.iaddr 4 (.tmp 70) (.lit (.int IntKind.i64 0)))), .mk (some 72) none (.p (.loadn 4 (.tmp 71))), .mk (some 73) none (.p (.move (.tmp 2))), .mk (some 74) none (.call (.lit (.func 28 [])) [.tmp 68, .tmp 72, .tmp 73]), .mk (some 11) none (.a (.newc 71 [.int IntKind.i64 0, .str [], .nilp, .nilp, .int IntKind.i64 0, .str [], .nils, .nils, .nilp, .nils])), .mk none none (.w (.store 10 (.tmp 11) (.tmp 74)))])
  (.seq (.ops [.mk (some 75) none (.p (.faddr 0 (.tmp 11))), .mk (some 76) none (.p (.load1 (.tmp 75))), .mk (some 77) none (.p (.bin .eql .none (.tmp 76) (.lit (.int IntKind.i64 2)))), .mk (some 78) none (.p (.move (.tmp 77))), .mk (some 79) (some (78, true)) (.p (.faddr 1 (.tmp 11))), .mk (some 80) (some (78, true)) (.p (.load1 (.tmp 79))), .mk (some 81) (some (78, true)) (.p (.bin .eql .none (.tmp 80) (.lit (.str [35, 102])))), .mk (some 82) none (.p (.pick (.tmp 78) (.tmp 81) (.lit (.bool false))))])
  (.cond (.tmp 82)
  (.seq (.ops [.mk (some 83) none (.p (.move (.tmp 0))), .mk (some 84) none (.p (.faddr 3 (.tmp 4))), .mk (some 85) none (.p (.load1 (.tmp 84))), .mk (some 86) none (.p (.iaddr 4 (.tmp 85) (.lit (.int IntKind.i64 2)))), .mk (some 87) none (.p (.loadn 4 (.tmp 86))), .mk (some 88) none (.p (.move (.tmp 2))), .mk (some 89) none (.call (.lit (.func 28 [])) [.tmp 83, .tmp 87, .tmp 88]), .mk none none (.w (.store 10 (.tmp 6) (.tmp 89)))])
  .ret)
  .skip)))
  (.seq (.ops [.mk (some 90) none (.p (.move (.tmp 0))), .mk (some 91) none (.p (.faddr 3 (.tmp 4))), .mk (some 92) none (.p (.load1 (.tmp 91))), .mk (some 93) none (.p (.iaddr 4 (.tmp 92) (.lit (.int IntKind.i64 1)))), .mk (some 94) none (.p (.loadn 4 (.tmp 93))), .mk (some 95) none (.p (.move (.tmp 2))), .mk (some 96) none (.call (.lit (.func 28 [])) [.tmp 90, .tmp 94, .tmp 95]), .mk none none (.w (.store 10 (.tmp 6) (.tmp 96)))])
  .ret))
  (.seq (.ops [.mk (some 98) none (.p (.bin .eql .none (.tmp 24) (.lit (.int IntKind.i64 9)))), .mk (some 97) none (.p (.move (.tmp 98)))])
  (.cond (.tmp 97)
  (.seq (.ops [.mk (some 99) none (.p (.faddr 2 (.tmp 4))), .mk (some 100) none (.p (.load1 (.tmp 99))), .mk (some 101) none (.p (.lenS (.tmp 100))), .mk (some 12) none (.p (.move (.tmp 101)))])
  (.seq (.ops [.mk (some 13) none (.p (.move (.lit .nils)))])
  (.seq (.seq (.ops [.mk (some 102) none (.p (.faddr 2 (.tmp 4))), .mk (some 103) none (.p (.load1 (.tmp 102))), .mk (some 104) none (.p (.lenS (.tmp 103))), .mk (some 105) none (.p (.move (.lit (.int IntKind.i64 0))))])
  (.block 3 (.loop c28_l1)))
  (.seq (.seq (.ops [.mk (some 129) none (.p (.move (.tmp 13))), .mk (some 130) none (.p (.lenS (.tmp 129))), .mk (some 131) none (.p (.move (.lit (.int IntKind.i64 0))))])
  (.block 5 (.loop c28_l2)))
  (.seq (.ops [.mk (some 140) none (.p (.move (.tmp 0))), .mk (some 141) none (.p (.faddr 3 (.tmp 4))), .mk (some 142) none (.p (.load1 (.tmp 141))), .mk (some 143) none (.p (.move (.tmp 12))), .mk (some 144) none (.p (.iaddr 4 (.tmp 142) (.tmp 143))), .mk (some 145) none (.p (.loadn 4 (.tmp 144))), .mk (some 146) none (.p (.move (.tmp 2))), .mk (some 147) none (.call (.lit (.func 28 [])) [.tmp 140, .tmp 145, .tmp 146]), .mk none none (.w (.store 10 (.tmp 6) (.tmp 147)))])
  .ret)))))
  (.seq (.ops [.mk (some 149) none (.p (.bin .eql .none (.tmp 24) (.lit (.int IntKind.i64 10)))), .mk (some 148) none (.p (.move (.tmp 149)))])
  (.cond (.tmp 148)
  (.seq (.seq (.ops [.mk (some 150) none (.p (.faddr 3 (.tmp 4))), .mk (some 151) none (.p (.load1 (.tmp 150))), .mk (some 152) none (.p (.lenS (.tmp 151))), .mk (some 153) none (.p (.bin .eql .none (.tmp 152) (.lit (.int IntKind.i64 2))))])
  (.cond (.tmp 153)
  (.seq (.ops [.mk (some 154) none (.p (.move (.tmp 0))), .mk (some 155) none (.p (.loadn 4 (.tmp 4))), .mk (some 156) none (.p (.move (.tmp 2))), .mk (some 157) none (.call (.lit (.func 44 [])) [.tmp 154, .tmp 155, .tmp 156]), .mk none none (.w (.store 10 (.tmp 6) (.tmp 157)))])
  .ret)
  .skip))
  (.seq (.draw [.mk (some 158) none (.p (.move (.tmp 0))), .mk (some 159) none (.p (.faddr 1 (.tmp 4))), .mk (some 160) none (.p (.load1 (.tmp 159))), .mk (some 161) none (.p (.move (.tmp 0))), .mk (some 162) none (.p (.faddr 3 (.tmp 4))), .mk (some 163) none (.p (.load1 (.tmp 162))), .mk (some 164) none (.p (.iaddr 4 (.tmp 163) (.lit (.int IntKind.i64 0)))), .mk (some 165) none (.p (.loadn 4 (.tmp 164))), .mk (some 166) none (.p (.move (.tmp 2)))] [(.mk (some 167) none (.call (.lit (.func 28 [])) [.tmp 161, .tmp 165, .tmp 166]), [.mk (some 160) none (.p (.load1 (.tmp 159)))], []), (.mk (some 168) none (.call (.lit (.func 45 [])) [.tmp 158, .tmp 160, .tmp 167]), [], []), (.mk none none (.w (.store 10 (.tmp 6) (.tmp 168))), [], [])])
  .ret))
  .skip))))))))))))))
  (.seq (.ops [.mk (some 169) none (.p (.loadn 4 (.tmp 4))), .mk (some 170) none (.call (.lit (.func 46 [])) [.tmp 169]), .mk none none (.w (.store 10 (.tmp 6) (.tmp 170)))])
  .ret)))), [.celln 6 10]⟩
theorem code28 (own : OwnT) (mode : FuncId → Nat) : (slimPrg Tryd.prog own mode).code 28 = some c28 := by kernel_rfl
-- thunk/thunklaw1.within
def c31 : SFunc := ⟨15, (.seq (.ops [.mk (some 4) none (.p (.move (.lit (.int IntKind.i64 0))))])
  (.seq (.ops [.mk (some 6) none (.p (.move (.tmp 0))), .mk (some 7) none (.p (.move (.tmp 1))), .mk (some 8) none (.p (.bin .rem .none (.tmp 6) (.tmp 7))), .mk (some 5) none (.p (.move (.tmp 8)))])
  (.seq (.seq (.ops [.mk (some 9) none (.p (.move (.tmp 5))), .mk (some 10) none (.p (.bin .lss .none (.tmp 9) (.lit (.int IntKind.i64 0))))])
  (.cond (.tmp 10)
  (.ops [.mk (some 11) none (.p (.move (.tmp 5))), .mk (some 12) none (.p (.move (.tmp 1))), .mk (some 13) none (.p (.bin .add .none (.tmp 11) (.tmp 12))), .mk (some 5) none (.p (.move (.tmp 13)))])
  .skip))
  (.seq (.ops [.mk (some 14) none (.p (.move (.tmp 5))), .mk (some 4) none (.p (.move (.tmp 14)))])
  .ret)))), [.tmp 4]⟩
theorem code31 (own : OwnT) (mode : FuncId → Nat) : (slimPrg Tryd.prog own mode).code 31 = some c31 := by kernel_rfl
-- thunk/thunklaw5.within
def c35 : SFunc := ⟨15, (.seq (.ops [.mk (some 4) none (.p (.move (.lit (.int IntKind.i64 0))))])
  (.seq (.ops [.mk (some 6) none (.p (.move (.tmp 0))), .mk (some 7) none (.p (.move (.tmp 1))), .mk (some 8) none (.p (.bin .rem .none (.tmp 6) (.tmp 7))), .mk (some 5) none (.p (.move (.tmp 8)))])
  (.seq (.seq (.ops [.mk (some 9) none (.p (.move (.tmp 5))), .mk (some 10) none (.p (.bin .lss .none (.tmp 9) (.lit (.int IntKind.i64 0))))])
  (.cond (.tmp 10)
  (.ops [.mk (some 11) none (.p (.move (.tmp 5))), .mk (some 12) none (.p (.move (.tmp 1))), .mk (some 13) none (.p (.bin .add .none (.tmp 11) (.tmp 12))), .mk (some 5) none (.p (.move (.tmp 13)))])
  .skip))
  (.seq (.ops [.mk (some 14) none (.p (.move (.tmp 5))), .mk (some 4) none (.p (.move (.tmp 14)))])
  .ret)))), [.tmp 4]⟩
theorem code35 (own : OwnT) (mode : FuncId → Nat) : (slimPrg Tryd.prog own mode).code 35 = some c35 := by kernel_rfl
-- (*thunk/thunklaw5.Maker).part
def c36 : SFunc := ⟨54, (.seq (.ops [.mk (some 5) none (.a (.box 50 (.tmp 1))), .mk (some 8) none (.a (.newc 28 [.int IntKind.i64 0, .str [], .nils, .nils]))])
  (.seq (.seq (.ops [.mk (some 9) none (.p (.move (.tmp 2))), .mk (some 10) none (.p (.faddr 2 (.tmp 5))), .mk (some 11) none (.p (.load1 (.tmp 10))), .mk (some 12) none (.p (.lenS (.tmp 11))), .mk (some 13) none (.p (.bin .lss .none (.tmp 9) (.tmp 12)))])
  (.cond (.tmp 13)
  (.seq (.ops [.mk (some 14) none (.p (.move (.tmp 0))), .mk (some 15) none (.p (.faddr 2 (.tmp 5))), .mk (some 16) none (.p (.load1 (.tmp 15))), .mk (some 17) none (.p (.move (.tmp 2))), .mk (some 18) none (.p (.iaddr 3 (.tmp 16) (.tmp 17))), .mk (some 19) none (.p (.loadn 3 (.tmp 18))), .mk (some 20) none (.p (.move (.tmp 3))), .mk (some 21) none (.call (.lit (.func 21 [])) [.tmp 14, .tmp 19, .tmp 20]), .mk none none (.w (.store 4 (.tmp 8) (.tmp 21)))])
  .ret)
  .skip))
  (.seq (.seq (.ops [.mk (some 22) none (.p (.move (.tmp 3))), .mk (some 23) none (.p (.lenS (.tmp 22))), .mk (some 24) none (.p (.bin .gtr .none (.tmp 23) (.lit (.int IntKind.i64 0)))), .mk (some 25) none (.p (.move (.tmp 24))), .mk (some 26) (some (25, true)) (.p (.faddr 1 (.tmp 5))), .mk (some 27) (some (25, true)) (.p (.load1 (.tmp 26))), .mk (some 28) (some (25, true)) (.p (.move (.tmp 2))), .mk (some 29) (some (25, true)) (.p (.bin .add .none (.tmp 27) (.tmp 28))), .mk (some 30) (some (25, true)) (.call (.lit (.func 35 [])) [.tmp 29, .lit (.int IntKind.i64 3)]), .mk (some 31) (some (25, true)) (.p (.bin .gtr .none (.tmp 30) (.lit (.int IntKind.i64 0)))), .mk (some 32) none (.p (.pick (.tmp 25) (.tmp 31) (.lit (.bool false))))])
  (.cond (.tmp 32)
  (.seq (.ops [.mk (some 33) none (.p (.move (.tmp 3))), .mk (some 34) none (.p (.faddr 1 (.tmp 5))), .mk (some 35) none (.p (.load1 (.tmp 34))), .mk (some 36) none (.p (.move (.tmp 2))), .mk (some 37) none (.p (.bin .mul .none (.lit (.int IntKind.i64 7)) (.tmp 36))), .mk (some 38) none (.p (.bin .add .none (.tmp 35) (.tmp 37))), .mk (some 39) none (.p (.move (.tmp 3))), .mk (some 40) none (.p (.lenS (.tmp 39))), .mk (some 41) none (.call (.lit (.func 35 [])) [.tmp 38, .tmp 40]), .mk (some 42) none (.p (.iaddr 1 (.tmp 33) (.tmp 41))), .mk (some 43) none (.p (.load1 (.tmp 42))), .mk (some 44) none (.call (.lit (.func 17 [])) [.tmp 43]), .mk none none (.w (.store 4 (.tmp 8) (.tmp 44)))])
  .ret)
  .skip))
  (.seq (.ops [.mk (some 45) none (.a (.buildS [.str [], .str [], .str [], .str [], .str []] 5 [(0, 1, .lit (.str [48])), (1, 1, .lit (.str [49])), (2, 1, .lit (.str [50])), (3, 1, .lit (.str [45, 51])), (4, 1, .lit (.str [49, 48]))])), .mk (some 46) none (.p (.faddr 1 (.tmp 5))), .mk (some 47) none (.p (.load1 (.tmp 46))), .mk (some 48) none (.p (.move (.tmp 2))), .mk (some 49) none (.p (.bin .add .none (.tmp 47) (.tmp 48))), .mk (some 50) none (.call (.lit (.func 35 [])) [.tmp 49, .lit (.int IntKind.i64 5)]), .mk (some 51) none (.p (.iaddr 1 (.tmp 45) (.tmp 50))), .mk (some 52) none (.p (.load1 (.tmp 51))), .mk (some 53) none (.p (.build [.int IntKind.i64 0, .str [], .nils, .nils] [(0, 1, .lit (.int IntKind.i64 1)), (1, 1, .tmp 52)])), .mk none none (.w (.store 4 (.tmp 8) (.tmp 53)))])
  .ret)))), [.celln 8 4]⟩
theorem code36 (own : OwnT) (mode : FuncId → Nat) : (slimPrg Tryd.prog own mode).code 36 = some c36 := by kernel_rfl
-- thunk/thunklaw5.digits
def c37 : SFunc := ⟨17, (.seq (.ops [.mk (some 2) none (.p (.move (.lit (.str []))))])
  (.seq (.seq (.ops [.mk (some 3) none (.p (.move (.tmp 0))), .mk (some 4) none (.p (.bin .geq .none (.tmp 3) (.lit (.int IntKind.i64 10))))])
  (.cond (.tmp 4)
  (.seq (.ops [.mk (some 5) none (.p (.move (.tmp 0))), .mk (some 6) none (.p (.bin .quo .none (.tmp 5) (.lit (.int IntKind.i64 10)))), .mk (some 7) none (.call (.lit (.func 37 [])) [.tmp 6]), .mk (some 8) none (.p (.move (.tmp 0))), .mk (some 9) none (.p (.bin .rem .none (.tmp 8) (.lit (.int IntKind.i64 10)))), .mk (some 10) none (.call (.lit (.func 37 [])) [.tmp 9]), .mk (some 11) none (.p (.bin .add .none (.tmp 7) (.tmp 10))), .mk (some 2) none (.p (.move (.tmp 11)))])
  .ret)
  .skip))
  (.seq (.ops [.mk (some 12) none (.p (.move (.tmp 0))), .mk (some 13) none (.p (.bin .add .none (.lit (.int IntKind.i64 48)) (.tmp 12))), .mk (some 14) none (.p (.toInt IntKind.u8 (.tmp 13))), .mk (some 15) none (.a (.buildS [.int IntKind.u8 0] 1 [(0, 1, .tmp 14)])), .mk (some 16) none (.p (.bytesStr (.tmp 15))), .mk (some 2) none (.p (.move (.tmp 16)))])
  .ret))), [.tmp 2]⟩
theorem code37 (own : OwnT) (mode : FuncId → Nat) : (slimPrg Tryd.prog own mode).code 37 = some c37 := by kernel_rfl
-- (*thunk/natural.work).say
def c38 : SFunc := ⟨18, (.seq (.seq (.ops [.mk (some 4) none (.p (.move (.tmp 0))), .mk (some 5) none (.p (.nilchk (.tmp 4))), .mk (some 6) none (.p (.faddr 1 (.tmp 5))), .mk (some 7) none (.call (.lit (.func 60 [])) [.tmp 6]), .mk (some 8) none (.p (.move (.tmp 1))), .mk (some 9) none (.p (.lenT (.tmp 8))), .mk (some 10) none (.p (.bin .add .none (.tmp 7) (.tmp 9))), .mk (some 11) none (.p (.bin .gtr .none (.tmp 10) (.lit (.int IntKind.i64 2000))))])
  (.cond (.tmp 11)
  (.ops [.mk (some 12) none (.call (.lit (.func 61 [])) [.lit (.int IntKind.i64 7), .lit (.str [])])])
  .skip))
  (.ops [.mk (some 13) none (.p (.move (.tmp 0))), .mk (some 14) none (.p (.nilchk (.tmp 13))), .mk (some 15) none (.p (.faddr 1 (.tmp 14))), .mk (some 16) none (.p (.move (.tmp 1))), .mk (some 17) none (.call (.lit (.func 62 [])) [.tmp 15, .tmp 16])])), []⟩
theorem code38 (own : OwnT) (mode : FuncId → Nat) : (slimPrg Tryd.prog own mode).code 38 = some c38 := by kernel_rfl
-- (*thunk/natural.work).force
def c39 : SFunc := ⟨54, (.seq (.ops [.mk (some 4) none (.a (.newc 71 [.int IntKind.i64 0, .str [], .nilp, .nilp, .int IntKind.i64 0, .str [], .nils, .nils, .nilp, .nils]))])
  (.seq (.seq (.ops [.mk (some 5) none (.p (.move (.tmp 1))), .mk (some 6) none (.p (.nilchk (.tmp 5))), .mk (some 7) none (.p (.faddr 15 (.tmp 6))), .mk (some 8) none (.p (.load1 (.tmp 7)))])
  (.cond (.tmp 8)
  (.seq (.ops [.mk (some 9) none (.p (.move (.tmp 1))), .mk (some 10) none (.p (.nilchk (.tmp 9))), .mk (some 11) none (.p (.faddr 0 (.tmp 10))), .mk (some 12) none (.p (.loadn 10 (.tmp 11))), .mk none none (.w (.store 10 (.tmp 4) (.tmp 12)))])
  .ret)
  .skip))
  (.seq (.seq (.ops [.mk (some 13) none (.p (.move (.tmp 1))), .mk (some 14) none (.p (.nilchk (.tmp 13))), .mk (some 15) none (.p (.faddr 16 (.tmp 14))), .mk (some 16) none (.p (.load1 (.tmp 15)))])
  (.cond (.tmp 16)
  (.ops [.mk (some 17) none (.call (.lit (.func 61 [])) [.lit (.int IntKind.i64 3), .lit (.str [])])])
  .skip))
  (.seq (.ops [.mk (some 18) none (.p (.move (.tmp 0))), .mk (some 19) none (.p (.nilchk (.tmp 18))), .mk (some 20) none (.p (.faddr 0 (.tmp 19))), .mk (some 21) none (.p (.load1 (.tmp 20))), .mk (some 22) none (.p (.nilchk (.tmp 21))), .mk (some 23) none (.p (.faddr 1 (.tmp 22))), .mk (some 24) none (.p (.load1 (.tmp 23))), .mk (some 25) none (.p (.bin .add .none (.tmp 24) (.lit (.int IntKind.i64 1)))), .mk (some 26) none (.p (.nilchk (.tmp 21))), .mk (some 27) none (.p (.faddr 1 (.tmp 26))), .mk none none (.w (.store 1 (.tmp 27) (.tmp 25)))])
  (.seq (.ops [.mk (some 28) none (.p (.move (.tmp 1))), .mk (some 29) none (.p (.nilchk (.tmp 28))), .mk (some 30) none (.p (.faddr 16 (.tmp 29))), .mk none none (.w (.store 1 (.tmp 30) (.lit (.bool true))))])
  (.seq (.draw [.mk (some 31) none (.p (.move (.tmp 1))), .mk (some 32) none (.p (.move (.tmp 0))), .mk (some 33) none (.p (.move (.tmp 1))), .mk (some 34) none (.p (.nilchk (.tmp 33))), .mk (some 35) none (.p (.faddr 10 (.tmp 34))), .mk (some 36) none (.p (.loadn 4 (.tmp 35))), .mk (some 37) none (.p (.move (.tmp 1))), .mk (some 38) none (.p (.nilchk (.tmp 37))), .mk (some 39) none (.p (.faddr 14 (.tmp 38))), .mk (some 40) none (.p (.load1 (.tmp 39)))] [(.mk (some 41) none (.call (.lit (.func 28 [])) [.tmp 32, .tmp 36, .tmp 40]), [], [.mk (some 42) none (.p (.nilchk (.tmp 31))), .mk (some 43) none (.p (.faddr 0 (.tmp 42)))]), (.mk none none (.w (.store 10 (.tmp 43) (.tmp 41))), [], [])])
  (.seq (.ops [.mk (some 44) none (.p (.move (.tmp 1))), .mk (some 45) none (.p (.move (.tmp 1))), .mk (some 46) none (.p (.nilchk (.tmp 44))), .mk (some 47) none (.p (.faddr 15 (.tmp 46))), .mk none none (.w (.store 1 (.tmp 47) (.lit (.bool true)))), .mk (some 48) none (.p (.nilchk (.tmp 45))), .mk (some 49) none (.p (.faddr 16 (.tmp 48))), .mk none none (.w (.store 1 (.tmp 49) (.lit (.bool false))))])
  (.seq (.ops [.mk (some 50) none (.p (.move (.tmp 1))), .mk (some 51) none (.p (.nilchk (.tmp 50))), .mk (some 52) none (.p (.faddr 0 (.tmp 51))), .mk (some 53) none (.p (.loadn 10 (.tmp 52))), .mk none none (.w (.store 10 (.tmp 4) (.tmp 53)))])
  .ret)))))))), [.celln 4 10]⟩
theorem code39 (own : OwnT) (mode : FuncId → Nat) : (slimPrg Tryd.prog own mode).code 39 = some c39 := by kernel_rfl
-- (*thunk/natural.count).step
def c40 : SFunc := ⟨19, (.seq (.ops [.mk (some 2) none (.p (.move (.tmp 0))), .mk (some 3) none (.p (.nilchk (.tmp 2))), .mk (some 4) none (.p (.faddr 0 (.tmp 3))), .mk (some 5) none (.p (.load1 (.tmp 4))), .mk (some 6) none (.p (.bin .add .none (.tmp 5) (.lit (.int IntKind.i64 1)))), .mk (some 7) none (.p (.nilchk (.tmp 2))), .mk (some 8) none (.p (.faddr 0 (.tmp 7))), .mk none none (.w (.store 1 (.tmp 8) (.tmp 6)))])
  (.seq (.draw [.mk (some 9) none (.p (.move (.tmp 0))), .mk (some 10) none (.p (.nilchk (.tmp 9))), .mk (some 11) none (.p (.faddr 0 (.tmp 10))), .mk (some 12) none (.p (.load1 (.tmp 11))), .mk (some 13) none (.p (.move (.tmp 0))), .mk (some 14) none (.p (.nilchk (.tmp 13))), .mk (some 15) none (.p (.faddr 2 (.tmp 14))), .mk (some 16) none (.p (.load1 (.tmp 15))), .mk (some 17) none (.p (.bin .gtr .none (.tmp 12) (.tmp 16)))] [])
  (.cond (.tmp 17)
  (.ops [.mk (some 18) none (.call (.lit (.func 61 [])) [.lit (.int IntKind.i64 6), .lit (.str [])])])
  .skip))), []⟩
theorem code40 (own : OwnT) (mode : FuncId → Nat) : (slimPrg Tryd.prog own mode).code 40 = some c40 := by kernel_rfl
-- (*thunk/natural.env).find
def c41_l0 : SCode :=
  (.seq (.seq (.ops [.mk (some 5) none (.p (.move (.tmp 0))), .mk (some 6) none (.p (.bin .neq .ptr (.tmp 5) (.lit .nilp)))])
  (.cond (.tmp 6)
  .skip
  (.exit 0)))
  (.seq (.block 1 (.seq (.ops [.mk (some 11) none (.p (.move (.tmp 0))), .mk (some 12) none (.p (.nilchk (.tmp 11))), .mk (some 13) none (.p (.faddr 0 (.tmp 12))), .mk (some 14) none (.p (.load1 (.tmp 13))), .mk (some 15) none (.p (.move (.tmp 1))), .mk (some 16) none (.p (.bin .eql .none (.tmp 14) (.tmp 15)))])
  (.cond (.tmp 16)
  (.seq (.ops [.mk (some 17) none (.p (.move (.tmp 0))), .mk (some 18) none (.p (.nilchk (.tmp 17))), .mk (some 19) none (.p (.faddr 1 (.tmp 18))), .mk (some 20) none (.p (.load1 (.tmp 19))), .mk (some 4) none (.p (.move (.tmp 20)))])
  .ret)
  .skip)))
  (.ops [.mk (some 7) none (.p (.move (.tmp 0))), .mk (some 8) none (.p (.nilchk (.tmp 7))), .mk (some 9) none (.p (.faddr 2 (.tmp 8))), .mk (some 10) none (.p (.load1 (.tmp 9))), .mk (some 0) none (.p (.move (.tmp 10)))])))
def c41 : SFunc := ⟨24, (.seq (.ops [.mk (some 4) none (.p (.move (.lit .nilp)))])
  (.seq (.block 0 (.loop c41_l0))
  (.seq (.ops [.mk (some 21) none (.p (.build [.int IntKind.i64 0, .str [], .nilp, .nilp, .int IntKind.i64 0, .str [], .nils, .nils, .nilp, .nils] [(0, 1, .lit (.int IntKind.i64 3)), (1, 1, .lit (.str [40, 41]))])), .mk (some 22) none (.p (.build [.int IntKind.i64 0, .str [], .nilp, .nilp, .int IntKind.i64 0, .str [], .nils, .nils, .nilp, .nils, .int IntKind.i64 0, .str [], .nils, .nils, .nilp, .bool false, .bool false] [(0, 10, .tmp 21), (15, 1, .lit (.bool true))])), .mk (some 23) none (.a (.box 96 (.tmp 22))), .mk (some 4) none (.p (.move (.tmp 23)))])
  .ret))), [.tmp 4]⟩
theorem code41 (own : OwnT) (mode : FuncId → Nat) : (slimPrg Tryd.prog own mode).code 41 = some c41 := by kernel_rfl
-- thunk/natural.argument
def c42 : SFunc := ⟨25, (.seq (.ops [.mk (some 2) none (.a (.box 28 (.tmp 0))), .mk (some 4) none (.p (.move (.lit .nilp)))])
  (.seq (.seq (.ops [.mk (some 5) none (.p (.faddr 0 (.tmp 2))), .mk (some 6) none (.p (.load1 (.tmp 5)))])
  (.block 0 (.seq (.ops [.mk (some 8) none (.p (.bin .eql .none (.tmp 6) (.lit (.int IntKind.i64 5)))), .mk (some 7) none (.p (.move (.tmp 8)))])
  (.cond (.tmp 7)
  (.seq (.ops [.mk (some 9) none (.p (.move (.tmp 1))), .mk (some 10) none (.p (.faddr 1 (.tmp 2))), .mk (some 11) none (.p (.load1 (.tmp 10))), .mk (some 12) none (.call (.lit (.func 41 [])) [.tmp 9, .tmp 11]), .mk (some 4) none (.p (.move (.tmp 12)))])
  .ret)
  (.seq (.seq (.ops [.mk (some 14) none (.p (.bin .eql .none (.tmp 6) (.lit (.int IntKind.i64 1)))), .mk (some 13) none (.p (.move (.tmp 14)))])
  (.cond (.tmp 13)
  .skip
  (.seq (.ops [.mk (some 15) none (.p (.bin .eql .none (.tmp 6) (.lit (.int IntKind.i64 2)))), .mk (some 13) none (.p (.move (.tmp 15)))])
  (.cond (.tmp 13)
  .skip
  (.seq (.ops [.mk (some 16) none (.p (.bin .eql .none (.tmp 6) (.lit (.int IntKind.i64 3)))), .mk (some 13) none (.p (.move (.tmp 16)))])
  (.cond (.tmp 13)
  .skip
  (.ops [.mk (some 17) none (.p (.bin .eql .none (.tmp 6) (.lit (.int IntKind.i64 4)))), .mk (some 13) none (.p (.move (.tmp 17)))])))))))
  (.cond (.tmp 13)
  (.seq (.ops [.mk (some 18) none (.p (.loadn 4 (.tmp 2))), .mk (some 19) none (.call (.lit (.func 46 [])) [.tmp 18]), .mk (some 20) none (.call (.lit (.func 25 [])) [.tmp 19]), .mk (some 4) none (.p (.move (.tmp 20)))])
  .ret)
  .skip))))))
  (.seq (.ops [.mk (some 21) none (.p (.loadn 4 (.tmp 2))), .mk (some 22) none (.p (.move (.tmp 1))), .mk (some 23) none (.p (.build [.int IntKind.i64 0, .str [], .nilp, .nilp, .int IntKind.i64 0, .str [], .nils, .nils, .nilp, .nils, .int IntKind.i64 0, .str [], .nils, .nils, .nilp, .bool false, .bool false] [(10, 4, .tmp 21), (14, 1, .tmp 22)])), .mk (some 24) none (.a (.box 96 (.tmp 23))), .mk (some 4) none (.p (.move (.tmp 24)))])
  .ret))), [.tmp 4]⟩
theorem code42 (own : OwnT) (mode : FuncId → Nat) : (slimPrg Tryd.prog own mode).code 42 = some c42 := by kernel_rfl
-- (*thunk/natural.work).apply
def c43_l0 : SCode :=
  (.seq (.ops [.mk (some 54) none (.p (.bin .lss .none (.tmp 53) (.tmp 52)))])
  (.seq (.cond (.tmp 54)
  .skip
  (.exit 2))
  (.seq (.block 3 (.seq (.ops [.mk (some 55) none (.p (.move (.tmp 53))), .mk (some 56) none (.p (.iaddr 1 (.tmp 51) (.tmp 53))), .mk (some 57) none (.p (.load1 (.tmp 56))), .mk (some 10) none (.p (.move (.tmp 55))), .mk (some 11) none (.p (.move (.tmp 57)))])
  (.ops [.mk (some 58) none (.p (.move (.tmp 11))), .mk (some 59) none (.p (.move (.tmp 8))), .mk (some 60) none (.p (.move (.tmp 10))), .mk (some 61) none (.p (.iaddr 1 (.tmp 59) (.tmp 60))), .mk (some 62) none (.p (.load1 (.tmp 61))), .mk (some 63) none (.p (.move (.tmp 9))), .mk (some 64) none (.p (.build [.str [], .nilp, .nilp] [(0, 1, .tmp 58), (1, 1, .tmp 62), (2, 1, .tmp 63)])), .mk (some 65) none (.a (.box 76 (.tmp 64))), .mk (some 9) none (.p (.move (.tmp 65)))])))
  (.ops [.mk (some 66) none (.p (.bin .add .none (.tmp 53) (.lit (.int IntKind.i64 1)))), .mk (some 53) none (.p (.move (.tmp 66)))]))))
def c43_l1 : SCode :=
  (.seq (.seq (.ops [.mk (some 12) none (.p (.move (.tmp 2))), .mk (some 13) none (.p (.lenS (.tmp 12))), .mk (some 14) none (.p (.bin .gtr .none (.tmp 13) (.lit (.int IntKind.i64 0))))])
  (.cond (.tmp 14)
  .skip
  (.exit 0)))
  (.block 1 (.seq (.seq (.ops [.mk (some 15) none (.p (.faddr 0 (.tmp 4))), .mk (some 16) none (.p (.load1 (.tmp 15))), .mk (some 17) none (.p (.bin .neq .none (.tmp 16) (.lit (.int IntKind.i64 6))))])
  (.cond (.tmp 17)
  (.ops [.mk (some 18) none (.call (.lit (.func 61 [])) [.lit (.int IntKind.i64 2), .lit (.str [97, 112, 112, 108, 121])])])
  .skip))
  (.seq (.ops [.mk (some 19) none (.p (.faddr 4 (.tmp 4))), .mk (some 20) none (.p (.faddr 2 (.tmp 19))), .mk (some 21) none (.p (.load1 (.tmp 20))), .mk (some 22) none (.p (.lenS (.tmp 21))), .mk (some 23) none (.p (.faddr 9 (.tmp 4))), .mk (some 24) none (.p (.load1 (.tmp 23))), .mk (some 25) none (.p (.lenS (.tmp 24))), .mk (some 26) none (.p (.bin .sub .none (.tmp 22) (.tmp 25))), .mk (some 7) none (.p (.move (.tmp 26)))])
  (.seq (.draw [.mk (some 27) none (.p (.faddr 9 (.tmp 4))), .mk (some 28) none (.p (.load1 (.tmp 27))), .mk (some 30) none (.p (.move (.tmp 2))), .mk (some 31) none (.p (.move (.tmp 7))), .mk (some 32) none (.p (.move (.tmp 2))), .mk (some 33) none (.p (.lenS (.tmp 32))), .mk (some 34) none (.p (.min2 (.tmp 31) (.tmp 33))), .mk (some 35) none (.p (.sliceS 1 (.tmp 30) none (some (.tmp 34)) none))] [(.mk (some 29) none (.w (.append 66 1 8 (.lit .nils) (.tmp 28))), [], []), (.mk (some 36) none (.w (.append 66 1 8 (.tmp 29) (.tmp 35))), [], [.mk (some 8) none (.p (.move (.tmp 36)))])])
  (.seq (.seq (.ops [.mk (some 37) none (.p (.move (.tmp 2))), .mk (some 38) none (.p (.lenS (.tmp 37))), .mk (some 39) none (.p (.move (.tmp 7))), .mk (some 40) none (.p (.bin .lss .none (.tmp 38) (.tmp 39)))])
  (.cond (.tmp 40)
  (.seq (.ops [.mk (some 41) none (.p (.move (.tmp 8))), .mk (some 42) none (.p (.faddr 9 (.tmp 4))), .mk none none (.w (.store 1 (.tmp 42) (.tmp 41)))])
  (.seq (.ops [.mk (some 43) none (.p (.loadn 10 (.tmp 4))), .mk none none (.w (.store 10 (.tmp 6) (.tmp 43)))])
  .ret))
  .skip))
  (.seq (.ops [.mk (some 44) none (.p (.move (.tmp 2))), .mk (some 45) none (.p (.move (.tmp 7))), .mk (some 46) none (.p (.sliceS 1 (.tmp 44) (some (.tmp 45)) none none)), .mk (some 2) none (.p (.move (.tmp 46)))])
  (.seq (.ops [.mk (some 47) none (.p (.faddr 8 (.tmp 4))), .mk (some 48) none (.p (.load1 (.tmp 47))), .mk (some 9) none (.p (.move (.tmp 48)))])
  (.seq (.seq (.ops [.mk (some 49) none (.p (.faddr 4 (.tmp 4))), .mk (some 50) none (.p (.faddr 2 (.tmp 49))), .mk (some 51) none (.p (.load1 (.tmp 50))), .mk (some 52) none (.p (.lenS (.tmp 51))), .mk (some 53) none (.p (.move (.lit (.int IntKind.i64 0))))])
  (.block 2 (.loop c43_l0)))
  (.ops [.mk (some 67) none (.p (.move (.tmp 0))), .mk (some 68) none (.p (.faddr 4 (.tmp 4))), .mk (some 69) none (.p (.faddr 3 (.tmp 68))), .mk (some 70) none (.p (.load1 (.tmp 69))), .mk (some 71) none (.p (.iaddr 4 (.tmp 70) (.lit (.int IntKind.i64 0)))), .mk (some 72) none (.p (.loadn 4 (.tmp 71))), .mk (some 73) none (.p (.move (.tmp 9))), .mk (some 74) none (.call (.lit (.func 28 [])) [.tmp 67, .tmp 72, .tmp 73]), .mk none none (.w (.store 10 (.tmp 4) (.tmp 74)))]))))))))))
def c43 : SFunc := ⟨76, (.seq (.ops [.mk (some 4) none (.a (.box 71 (.tmp 1))), .mk (some 6) none (.a (.newc 71 [.int IntKind.i64 0, .str [], .nilp, .nilp, .int IntKind.i64 0, .str [], .nils, .nils, .nilp, .nils]))])
  (.seq (.block 0 (.loop c43_l1))
  (.seq (.ops [.mk (some 75) none (.p (.loadn 10 (.tmp 4))), .mk none none (.w (.store 10 (.tmp 6) (.tmp 75)))])
  .ret))), [.celln 6 10]⟩
theorem code43 (own : OwnT) (mode : FuncId → Nat) : (slimPrg Tryd.prog own mode).code 43 = some c43 := by kernel_rfl
-- (*thunk/natural.work).two
def c44_l0 : SCode :=
  (.seq (.ops [.mk (some 80) none (.p (.bin .lss .none (.tmp 79) (.lit (.int IntKind.i64 2))))])
  (.seq (.cond (.tmp 80)
  .skip
  (.exit 1))
  (.seq (.block 2 (.seq (.ops [.mk (some 81) none (.p (.move (.tmp 79))), .mk (some 10) none (.p (.move (.tmp 81)))])
  (.seq (.ops [.mk (some 82) none (.p (.move (.tmp 10))), .mk (some 83) none (.p (.move (.tmp 0))), .mk (some 84) none (.p (.faddr 3 (.tmp 4))), .mk (some 85) none (.p (.load1 (.tmp 84))), .mk (some 86) none (.p (.move (.tmp 10))), .mk (some 87) none (.p (.iaddr 4 (.tmp 85) (.tmp 86))), .mk (some 88) none (.p (.loadn 4 (.tmp 87))), .mk (some 89) none (.p (.move (.tmp 2))), .mk (some 90) none (.call (.lit (.func 28 [])) [.tmp 83, .tmp 88, .tmp 89]), .mk (some 91) none (.p (.iaddrA 2 10 (.tmp 9) (.tmp 82))), .mk none none (.w (.store 10 (.tmp 91) (.tmp 90)))])
  (.seq (.ops [.mk (some 92) none (.p (.move (.tmp 10))), .mk (some 93) none (.p (.iaddrA 2 10 (.tmp 9) (.tmp 92))), .mk (some 94) none (.p (.faddr 0 (.tmp 93))), .mk (some 95) none (.p (.load1 (.tmp 94))), .mk (some 96) none (.p (.bin .neq .none (.tmp 95) (.lit (.int IntKind.i64 1))))])
  (.cond (.tmp 96)
  (.ops [.mk (some 97) none (.call (.lit (.func 61 [])) [.lit (.int IntKind.i64 2), .lit (.str [110, 117, 109, 98, 101, 114])])])
  .skip)))))
  (.ops [.mk (some 98) none (.p (.bin .add .none (.tmp 79) (.lit (.int IntKind.i64 1)))), .mk (some 79) none (.p (.move (.tmp 98)))]))))
def c44 : SFunc := ⟨108, (.seq (.ops [.mk (some 4) none (.a (.box 28 (.tmp 1))), .mk (some 6) none (.a (.newc 71 [.int IntKind.i64 0, .str [], .nilp, .nilp, .int IntKind.i64 0, .str [], .nils, .nils, .nilp, .nils]))])
  (.seq (.seq (.ops [.mk (some 11) none (.p (.faddr 1 (.tmp 4))), .mk (some 12) none (.p (.load1 (.tmp 11)))])
  (.block 0 (.seq (.ops [.mk (some 14) none (.p (.bin .eql .none (.tmp 12) (.lit (.str [99, 111, 110, 115])))), .mk (some 13) none (.p (.move (.tmp 14)))])
  (.cond (.tmp 13)
  (.seq (.draw [.mk (some 15) none (.p (.faddr 3 (.tmp 4))), .mk (some 16) none (.p (.load1 (.tmp 15))), .mk (some 17) none (.p (.iaddr 4 (.tmp 16) (.lit (.int IntKind.i64 0)))), .mk (some 18) none (.p (.loadn 4 (.tmp 17))), .mk (some 19) none (.p (.move (.tmp 2))), .mk (some 21) none (.p (.faddr 3 (.tmp 4))), .mk (some 22) none (.p (.load1 (.tmp 21))), .mk (some 23) none (.p (.iaddr 4 (.tmp 22) (.lit (.int IntKind.i64 1)))), .mk (some 24) none (.p (.loadn 4 (.tmp 23))), .mk (some 25) none (.p (.move (.tmp 2)))] [(.mk (some 20) none (.call (.lit (.func 42 [])) [.tmp 18, .tmp 19]), [.mk (some 22) none (.p (.load1 (.tmp 21))), .mk (some 24) none (.p (.loadn 4 (.tmp 23)))], []), (.mk (some 26) none (.call (.lit (.func 42 [])) [.tmp 24, .tmp 25]), [], [.mk (some 27) none (.p (.build [.int IntKind.i64 0, .str [], .nilp, .nilp, .int IntKind.i64 0, .str [], .nils, .nils, .nilp, .nils] [(0, 1, .lit (.int IntKind.i64 5)), (2, 1, .tmp 20), (3, 1, .tmp 26)]))]), (.mk none none (.w (.store 10 (.tmp 6) (.tmp 27))), [], [])])
  .ret)
  (.seq (.ops [.mk (some 29) none (.p (.bin .eql .none (.tmp 12) (.lit (.str [115, 101, 113])))), .mk (some 28) none (.p (.move (.tmp 29)))])
  (.cond (.tmp 28)
  (.seq (.ops [.mk (some 30) none (.p (.move (.tmp 0))), .mk (some 31) none (.p (.faddr 3 (.tmp 4))), .mk (some 32) none (.p (.load1 (.tmp 31))), .mk (some 33) none (.p (.iaddr 4 (.tmp 32) (.lit (.int IntKind.i64 0)))), .mk (some 34) none (.p (.loadn 4 (.tmp 33))), .mk (some 35) none (.p (.move (.tmp 2))), .mk (some 36) none (.call (.lit (.func 28 [])) [.tmp 30, .tmp 34, .tmp 35])])
  (.seq (.ops [.mk (some 37) none (.p (.move (.tmp 0))), .mk (some 38) none (.p (.faddr 3 (.tmp 4))), .mk (some 39) none (.p (.load1 (.tmp 38))), .mk (some 40) none (.p (.iaddr 4 (.tmp 39) (.lit (.int IntKind.i64 1)))), .mk (some 41) none (.p (.loadn 4 (.tmp 40))), .mk (some 42) none (.p (.move (.tmp 2))), .mk (some 43) none (.call (.lit (.func 28 [])) [.tmp 37, .tmp 41, .tmp 42]), .mk none none (.w (.store 10 (.tmp 6) (.tmp 43)))])
  .ret))
  (.seq (.ops [.mk (some 45) none (.p (.bin .eql .none (.tmp 12) (.lit (.str [101, 113, 63])))), .mk (some 44) none (.p (.move (.tmp 45)))])
  (.cond (.tmp 44)
  (.seq (.ops [.mk (some 46) none (.p (.move (.tmp 0))), .mk (some 47) none (.p (.faddr 3 (.tmp 4))), .mk (some 48) none (.p (.load1 (.tmp 47))), .mk (some 49) none (.p (.iaddr 4 (.tmp 48) (.lit (.int IntKind.i64 0)))), .mk (some 50) none (.p (.loadn 4 (.tmp 49))), .mk (some 51) none (.p (.move (.tmp 2))), .mk (some 52) none (.call (.lit (.func 28 [])) [.tmp 46, .tmp 50, .tmp 51]), .mk (some 53) none (.p (.build [.int IntKind.i64 0, .str [], .nilp, .nilp, .int IntKind.i64 0, .str [], .nils, .nils, .nilp, .nils] [])), .mk (some 7) none (.a (.newc 71 [.int IntKind.i64 0, .str [], .nilp, .nilp, .int IntKind.i64 0, .str [], .nils, .nils, .nilp, .nils])), .mk (some 8) none (.a (.newc 71 [.int IntKind.i64 0, .str [], .nilp, .nilp, .int IntKind.i64 0, .str [], .nils, .nils, .nilp, .nils])), .mk none none (.w (.store 10 (.tmp 7) (.tmp 52))), .mk none none (.w (.store 10 (.tmp 8) (.tmp 53)))])
  (.seq (.ops [.mk (some 54) none (.p (.move (.tmp 0))), .mk (some 55) none (.p (.faddr 3 (.tmp 4))), .mk (some 56) none (.p (.load1 (.tmp 55))), .mk (some 57) none (.p (.iaddr 4 (.tmp 56) (.lit (.int IntKind.i64 1)))), .mk (some 58) none (.p (.loadn 4 (.tmp 57))), .mk (some 59) none (.p (.move (.tmp 2))), .mk (some 60) none (.call (.lit (.func 28 [])) [.tmp 54, .tmp 58, .tmp 59]), .mk none none (.w (.store 10 (.tmp 8) (.tmp 60)))])
  (.seq (.ops [.mk (some 61) none (.p (.faddr 0 (.tmp 7))), .mk (some 62) none (.p (.load1 (.tmp 61))), .mk (some 63) none (.p (.bin .lss .none (.tmp 62) (.lit (.int IntKind.i64 5)))), .mk (some 64) none (.p (.move (.tmp 63))), .mk (some 65) (some (64, true)) (.p (.faddr 0 (.tmp 7))), .mk (some 66) (some (64, true)) (.p (.load1 (.tmp 65))), .mk (some 67) (some (64, true)) (.p (.faddr 0 (.tmp 8))), .mk (some 68) (some (64, true)) (.p (.load1 (.tmp 67))), .mk (some 69) (some (64, true)) (.p (.bin .eql .none (.tmp 66) (.tmp 68))), .mk (some 70) none (.p (.pick (.tmp 64) (.tmp 69) (.lit (.bool false)))), .mk (some 71) none (.p (.move (.tmp 70))), .mk (some 72) (some (71, true)) (.p (.faddr 1 (.tmp 7))), .mk (some 73) (some (71, true)) (.p (.load1 (.tmp 72))), .mk (some 74) (some (71, true)) (.p (.faddr 1 (.tmp 8))), .mk (some 75) (some (71, true)) (.p (.load1 (.tmp 74))), .mk (some 76) (some (71, true)) (.p (.bin .eql .none (.tmp 73) (.tmp 75))), .mk (some 77) none (.p (.pick (.tmp 71) (.tmp 76) (.lit (.bool false)))), .mk (some 78) none (.call (.lit (.func 63 [])) [.tmp 77]), .mk none none (.w (.store 10 (.tmp 6) (.tmp 78)))])
  .ret)))
  .skip))))))))
  (.seq (.ops [.mk (some 9) none (.a (.newc 124 [.int IntKind.i64 0, .str [], .nilp, .nilp, .int IntKind.i64 0, .str [], .nils, .nils, .nilp, .nils, .int IntKind.i64 0, .str [], .nilp, .nilp, .int IntKind.i64 0, .str [], .nils, .nils, .nilp, .nils]))])
  (.seq (.seq (.ops [.mk (some 79) none (.p (.move (.lit (.int IntKind.i64 0))))])
  (.block 1 (.loop c44_l0)))
  (.seq (.ops [.mk (some 99) none (.p (.faddr 1 (.tmp 4))), .mk (some 100) none (.p (.load1 (.tmp 99))), .mk (some 101) none (.p (.iaddrA 2 10 (.tmp 9) (.lit (.int IntKind.i64 0)))), .mk (some 102) none (.p (.faddr 1 (.tmp 101))), .mk (some 103) none (.p (.load1 (.tmp 102))), .mk (some 104) none (.p (.iaddrA 2 10 (.tmp 9) (.lit (.int IntKind.i64 1)))), .mk (some 105) none (.p (.faddr 1 (.tmp 104))), .mk (some 106) none (.p (.load1 (.tmp 105))), .mk (some 107) none (.call (.lit (.func 64 [])) [.tmp 100, .tmp 103, .tmp 106]), .mk none none (.w (.store 10 (.tmp 6) (.tmp 107)))])
  .ret))))), [.celln 6 10]⟩
theorem code44 (own : OwnT) (mode : FuncId → Nat) : (slimPrg Tryd.prog own mode).code 44 = some c44 := by kernel_rfl
-- (*thunk/natural.work).one
def c45 : SFunc := ⟨69, (.seq (.ops [.mk (some 5) none (.a (.box 71 (.tmp 2))), .mk (some 6) none (.a (.newc 71 [.int IntKind.i64 0, .str [], .nilp, .nilp, .int IntKind.i64 0, .str [], .nils, .nils, .nilp, .nils]))])
  (.seq (.seq (.ops [.mk (some 7) none (.p (.move (.tmp 1)))])
  (.block 0 (.seq (.seq (.ops [.mk (some 9) none (.p (.bin .eql .none (.tmp 7) (.lit (.str [99, 97, 114])))), .mk (some 8) none (.p (.move (.tmp 9)))])
  (.cond (.tmp 8)
  .skip
  (.ops [.mk (some 10) none (.p (.bin .eql .none (.tmp 7) (.lit (.str [99, 100, 114])))), .mk (some 8) none (.p (.move (.tmp 10)))])))
  (.cond (.tmp 8)
  (.seq (.seq (.ops [.mk (some 11) none (.p (.faddr 0 (.tmp 5))), .mk (some 12) none (.p (.load1 (.tmp 11))), .mk (some 13) none (.p (.bin .neq .none (.tmp 12) (.lit (.int IntKind.i64 5))))])
  (.cond (.tmp 13)
  (.ops [.mk (some 14) none (.call (.lit (.func 61 [])) [.lit (.int IntKind.i64 2), .lit (.str [112, 97, 105, 114])])])
  .skip))
  (.seq (.seq (.ops [.mk (some 15) none (.p (.move (.tmp 1))), .mk (some 16) none (.p (.bin .eql .none (.tmp 15) (.lit (.str [99, 97, 114]))))])
  (.cond (.tmp 16)
  (.seq (.ops [.mk (some 17) none (.p (.move (.tmp 0))), .mk (some 18) none (.p (.faddr 2 (.tmp 5))), .mk (some 19) none (.p (.load1 (.tmp 18))), .mk (some 20) none (.call (.lit (.func 39 [])) [.tmp 17, .tmp 19]), .mk none none (.w (.store 10 (.tmp 6) (.tmp 20)))])
  .ret)
  .skip))
  (.seq (.ops [.mk (some 21) none (.p (.move (.tmp 0))), .mk (some 22) none (.p (.faddr 3 (.tmp 5))), .mk (some 23) none (.p (.load1 (.tmp 22))), .mk (some 24) none (.call (.lit (.func 39 [])) [.tmp 21, .tmp 23]), .mk none none (.w (.store 10 (.tmp 6) (.tmp 24)))])
  .ret)))
  (.seq (.ops [.mk (some 26) none (.p (.bin .eql .none (.tmp 7) (.lit (.str [110, 117, 108, 108, 63])))), .mk (some 25) none (.p (.move (.tmp 26)))])
  (.cond (.tmp 25)
  (.seq (.ops [.mk (some 27) none (.p (.faddr 0 (.tmp 5))), .mk (some 28) none (.p (.load1 (.tmp 27))), .mk (some 29) none (.p (.bin .eql .none (.tmp 28) (.lit (.int IntKind.i64 3)))), .mk (some 30) none (.call (.lit (.func 63 [])) [.tmp 29]), .mk none none (.w (.store 10 (.tmp 6) (.tmp 30)))])
  .ret)
  (.seq (.ops [.mk (some 32) none (.p (.bin .eql .none (.tmp 7) (.lit (.str [112, 97, 105, 114, 63])))), .mk (some 31) none (.p (.move (.tmp 32)))])
  (.cond (.tmp 31)
  (.seq (.ops [.mk (some 33) none (.p (.faddr 0 (.tmp 5))), .mk (some 34) none (.p (.load1 (.tmp 33))), .mk (some 35) none (.p (.bin .eql .none (.tmp 34) (.lit (.int IntKind.i64 5)))), .mk (some 36) none (.call (.lit (.func 63 [])) [.tmp 35]), .mk none none (.w (.store 10 (.tmp 6) (.tmp 36)))])
  .ret)
  (.seq (.ops [.mk (some 38) none (.p (.bin .eql .none (.tmp 7) (.lit (.str [105, 110, 116, 101, 103, 101, 114, 63])))), .mk (some 37) none (.p (.move (.tmp 38)))])
  (.cond (.tmp 37)
  (.seq (.ops [.mk (some 39) none (.p (.faddr 0 (.tmp 5))), .mk (some 40) none (.p (.load1 (.tmp 39))), .mk (some 41) none (.p (.bin .eql .none (.tmp 40) (.lit (.int IntKind.i64 1)))), .mk (some 42) none (.call (.lit (.func 63 [])) [.tmp 41]), .mk none none (.w (.store 10 (.tmp 6) (.tmp 42)))])
  .ret)
  (.seq (.ops [.mk (some 44) none (.p (.bin .eql .none (.tmp 7) (.lit (.str [115, 121, 109, 98, 111, 108, 63])))), .mk (some 43) none (.p (.move (.tmp 44)))])
  (.cond (.tmp 43)
  (.seq (.ops [.mk (some 45) none (.p (.faddr 0 (.tmp 5))), .mk (some 46) none (.p (.load1 (.tmp 45))), .mk (some 47) none (.p (.bin .eql .none (.tmp 46) (.lit (.int IntKind.i64 4)))), .mk (some 48) none (.call (.lit (.func 63 [])) [.tmp 47]), .mk none none (.w (.store 10 (.tmp 6) (.tmp 48)))])
  .ret)
  (.seq (.ops [.mk (some 50) none (.p (.bin .eql .none (.tmp 7) (.lit (.str [110, 111, 116])))), .mk (some 49) none (.p (.move (.tmp 50)))])
  (.cond (.tmp 49)
  (.seq (.ops [.mk (some 51) none (.p (.faddr 0 (.tmp 5))), .mk (some 52) none (.p (.load1 (.tmp 51))), .mk (some 53) none (.p (.bin .eql .none (.tmp 52) (.lit (.int IntKind.i64 2)))), .mk (some 54) none (.p (.move (.tmp 53))), .mk (some 55) (some (54, true)) (.p (.faddr 1 (.tmp 5))), .mk (some 56) (some (54, true)) (.p (.load1 (.tmp 55))), .mk (some 57) (some (54, true)) (.p (.bin .eql .none (.tmp 56) (.lit (.str [35, 102])))), .mk (some 58) none (.p (.pick (.tmp 54) (.tmp 57) (.lit (.bool false)))), .mk (some 59) none (.call (.lit (.func 63 [])) [.tmp 58]), .mk none none (.w (.store 10 (.tmp 6) (.tmp 59)))])
  .ret)
  .skip))))))))))))))
  (.seq (.seq (.ops [.mk (some 60) none (.p (.faddr 0 (.tmp 5))), .mk (some 61) none (.p (.load1 (.tmp 60))), .mk (some 62) none (.p (.bin .lss .none (.tmp 61) (.lit (.int IntKind.i64 5))))])
  (.cond (.tmp 62)
  (.ops [.mk (some 63) none (.p (.faddr 1 (.tmp 5))), .mk (some 64) none (.p (.load1 (.tmp 63))), .mk (some 65) none (.p (.bin .add .none (.lit (.str [101, 114, 114, 111, 114, 32])) (.tmp 64))), .mk (some 66) none (.call (.lit (.func 61 [])) [.lit (.int IntKind.i64 2), .tmp 65])])
  .skip))
  (.seq (.ops [.mk (some 67) none (.call (.lit (.func 61 [])) [.lit (.int IntKind.i64 2), .lit (.str [101, 114, 114, 111, 114])])])
  (.seq (.ops [.mk (some 68) none (.p (.build [.int IntKind.i64 0, .str [], .nilp, .nilp, .int IntKind.i64 0, .str [], .nils, .nils, .nilp, .nils] [])), .mk none none (.w (.store 10 (.tmp 6) (.tmp 68)))])
  .ret))))), [.celln 6 10]⟩
theorem code45 (own : OwnT) (mode : FuncId → Nat) : (slimPrg Tryd.prog own mode).code 45 = some c45 := by kernel_rfl
-- thunk/natural.constant
def c46 : SFunc := ⟨21, (.seq (.ops [.mk (some 1) none (.a (.box 28 (.tmp 0))), .mk (some 2) none (.a (.newc 71 [.int IntKind.i64 0, .str [], .nilp, .nilp, .int IntKind.i64 0, .str [], .nils, .nils, .nilp, .nils]))])
  (.seq (.seq (.ops [.mk (some 3) none (.p (.faddr 0 (.tmp 1))), .mk (some 4) none (.p (.load1 (.tmp 3)))])
  (.block 0 (.seq (.ops [.mk (some 6) none (.p (.bin .eql .none (.tmp 4) (.lit (.int IntKind.i64 1)))), .mk (some 5) none (.p (.move (.tmp 6)))])
  (.cond (.tmp 5)
  (.seq (.ops [.mk (some 7) none (.p (.faddr 1 (.tmp 1))), .mk (some 8) none (.p (.load1 (.tmp 7))), .mk (some 9) none (.p (.build [.int IntKind.i64 0, .str [], .nilp, .nilp, .int IntKind.i64 0, .str [], .nils, .nils, .nilp, .nils] [(0, 1, .lit (.int IntKind.i64 1)), (1, 1, .tmp 8)])), .mk none none (.w (.store 10 (.tmp 2) (.tmp 9)))])
  .ret)
  (.seq (.ops [.mk (some 11) none (.p (.bin .eql .none (.tmp 4) (.lit (.int IntKind.i64 2)))), .mk (some 10) none (.p (.move (.tmp 11)))])
  (.cond (.tmp 10)
  (.seq (.ops [.mk (some 12) none (.p (.faddr 1 (.tmp 1))), .mk (some 13) none (.p (.load1 (.tmp 12))), .mk (some 14) none (.p (.build [.int IntKind.i64 0, .str [], .nilp, .nilp, .int IntKind.i64 0, .str [], .nils, .nils, .nilp, .nils] [(0, 1, .lit (.int IntKind.i64 2)), (1, 1, .tmp 13)])), .mk none none (.w (.store 10 (.tmp 2) (.tmp 14)))])
  .ret)
  (.seq (.ops [.mk (some 16) none (.p (.bin .eql .none (.tmp 4) (.lit (.int IntKind.i64 4)))), .mk (some 15) none (.p (.move (.tmp 16)))])
  (.cond (.tmp 15)
  (.seq (.ops [.mk (some 17) none (.p (.faddr 1 (.tmp 1))), .mk (some 18) none (.p (.load1 (.tmp 17))), .mk (some 19) none (.p (.build [.int IntKind.i64 0, .str [], .nilp, .nilp, .int IntKind.i64 0, .str [], .nils, .nils, .nilp, .nils] [(0, 1, .lit (.int IntKind.i64 4)), (1, 1, .tmp 18)])), .mk none none (.w (.store 10 (.tmp 2) (.tmp 19)))])
  .ret)
  .skip))))))))
  (.seq (.ops [.mk (some 20) none (.p (.build [.int IntKind.i64 0, .str [], .nilp, .nilp, .int IntKind.i64 0, .str [], .nils, .nils, .nilp, .nils] [(0, 1, .lit (.int IntKind.i64 3)), (1, 1, .lit (.str [40, 41]))])), .mk none none (.w (.store 10 (.tmp 2) (.tmp 20)))])
  .ret))), [.celln 2 10]⟩
theorem code46 (own : OwnT) (mode : FuncId → Nat) : (slimPrg Tryd.prog own mode).code 46 = some c46 := by kernel_rfl
-- thunk/thunkref7.lazy
def c47 : SFunc := ⟨16, (.seq (.ops [.mk (some 1) none (.a (.box 28 (.tmp 0))), .mk (some 2) none (.p (.move (.lit (.int IntKind.i64 0))))])
  (.seq (.block 0 (.seq (.ops [.mk (some 4) none (.p (.faddr 0 (.tmp 1))), .mk (some 5) none (.p (.load1 (.tmp 4))), .mk (some 6) none (.p (.bin .eql .none (.tmp 5) (.lit (.int IntKind.i64 7)))), .mk (some 3) none (.p (.move (.tmp 6)))])
  (.cond (.tmp 3)
  (.seq (.ops [.mk (some 2) none (.p (.move (.lit (.int IntKind.i64 1))))])
  .ret)
  (.seq (.ops [.mk (some 8) none (.p (.faddr 0 (.tmp 1))), .mk (some 9) none (.p (.load1 (.tmp 8))), .mk (some 10) none (.p (.bin .eql .none (.tmp 9) (.lit (.int IntKind.i64 10)))), .mk (some 11) none (.p (.move (.tmp 10))), .mk (some 12) (some (11, true)) (.p (.faddr 1 (.tmp 1))), .mk (some 13) (some (11, true)) (.p (.load1 (.tmp 12))), .mk (some 14) (some (11, true)) (.p (.bin .eql .none (.tmp 13) (.lit (.str [99, 111, 110, 115])))), .mk (some 15) none (.p (.pick (.tmp 11) (.tmp 14) (.lit (.bool false)))), .mk (some 7) none (.p (.move (.tmp 15)))])
  (.cond (.tmp 7)
  (.seq (.ops [.mk (some 2) none (.p (.move (.lit (.int IntKind.i64 0))))])
  .ret)
  .skip)))))
  (.seq (.ops [.mk (some 2) none (.p (.move (.lit (.int IntKind.i64 (-1)))))])
  .ret))), [.tmp 2]⟩
theorem code47 (own : OwnT) (mode : FuncId → Nat) : (slimPrg Tryd.prog own mode).code 47 = some c47 := by kernel_rfl
-- thunk/thunkref5.Atom
def c48 : SFunc := ⟨11, (.seq (.ops [.mk (some 1) none (.a (.box 28 (.tmp 0))), .mk (some 2) none (.p (.move (.lit (.bool false))))])
  (.seq (.ops [.mk (some 3) none (.p (.faddr 0 (.tmp 1))), .mk (some 4) none (.p (.load1 (.tmp 3))), .mk (some 5) none (.p (.bin .geq .none (.tmp 4) (.lit (.int IntKind.i64 1)))), .mk (some 6) none (.p (.move (.tmp 5))), .mk (some 7) (some (6, true)) (.p (.faddr 0 (.tmp 1))), .mk (some 8) (some (6, true)) (.p (.load1 (.tmp 7))), .mk (some 9) (some (6, true)) (.p (.bin .leq .none (.tmp 8) (.lit (.int IntKind.i64 5)))), .mk (some 10) none (.p (.pick (.tmp 6) (.tmp 9) (.lit (.bool false)))), .mk (some 2) none (.p (.move (.tmp 10)))])
  .ret)), [.tmp 2]⟩
theorem code48 (own : OwnT) (mode : FuncId → Nat) : (slimPrg Tryd.prog own mode).code 48 = some c48 := by kernel_rfl
-- (*thunk/thunkref7.Namer).Next
def c49 : SFunc := ⟨20, (.seq (.ops [.mk (some 2) none (.p (.move (.lit (.str []))))])
  (.seq (.ops [.mk (some 3) none (.p (.move (.tmp 0))), .mk (some 4) none (.p (.nilchk (.tmp 3))), .mk (some 5) none (.p (.faddr 1 (.tmp 4))), .mk (some 6) none (.p (.load1 (.tmp 5))), .mk (some 7) none (.p (.bin .add .none (.tmp 6) (.lit (.int IntKind.i64 1)))), .mk (some 8) none (.p (.nilchk (.tmp 3))), .mk (some 9) none (.p (.faddr 1 (.tmp 8))), .mk none none (.w (.store 1 (.tmp 9) (.tmp 7)))])
  (.seq (.draw [.mk (some 10) none (.p (.move (.tmp 0))), .mk (some 11) none (.p (.nilchk (.tmp 10))), .mk (some 12) none (.p (.faddr 0 (.tmp 11))), .mk (some 13) none (.p (.load1 (.tmp 12))), .mk (some 14) none (.p (.move (.tmp 0))), .mk (some 15) none (.p (.nilchk (.tmp 14))), .mk (some 16) none (.p (.faddr 1 (.tmp 15))), .mk (some 17) none (.p (.load1 (.tmp 16)))] [(.mk (some 18) none (.call (.lit (.func 65 [])) [.tmp 17]), [.mk (some 13) none (.p (.load1 (.tmp 12)))], [.mk (some 19) none (.p (.bin .add .none (.tmp 13) (.tmp 18))), .mk (some 2) none (.p (.move (.tmp 19)))])])
  .ret))), [.tmp 2]⟩
theorem code49 (own : OwnT) (mode : FuncId → Nat) : (slimPrg Tryd.prog own mode).code 49 = some c49 := by kernel_rfl
-- (*strings.Builder).Len
def c60 : SFunc := ⟨8, (.seq (.ops [.mk (some 2) none (.p (.move (.lit (.int IntKind.i64 0))))])
  (.seq (.ops [.mk (some 3) none (.p (.move (.tmp 0))), .mk (some 4) none (.p (.nilchk (.tmp 3))), .mk (some 5) none (.p (.faddr 1 (.tmp 4))), .mk (some 6) none (.p (.load1 (.tmp 5))), .mk (some 7) none (.p (.lenS (.tmp 6))), .mk (some 2) none (.p (.move (.tmp 7)))])
  .ret)), [.tmp 2]⟩
theorem code60 (own : OwnT) (mode : FuncId → Nat) : (slimPrg Tryd.prog own mode).code 60 = some c60 := by kernel_rfl
-- thunk/natural.stop
def c61 : SFunc := ⟨8, (.ops [.mk (some 4) none (.p (.move (.tmp 0))), .mk (some 5) none (.p (.move (.tmp 1))), .mk (some 6) none (.p (.build [.int IntKind.i64 0, .str [], .int IntKind.i64 0] [(0, 1, .tmp 4), (1, 1, .tmp 5)])), .mk (some 7) none (.p (.mkIface 72 (.tmp 6))), .mk none none (.panic (.tmp 7))]), []⟩
theorem code61 (own : OwnT) (mode : FuncId → Nat) : (slimPrg Tryd.prog own mode).code 61 = some c61 := by kernel_rfl
-- (*strings.Builder).WriteString
def c62 : SFunc := ⟨19, (.seq (.ops [.mk (some 4) none (.p (.move (.lit (.int IntKind.i64 0)))), .mk (some 5) none (.p (.move (.lit .nili)))])
  (.seq (.ops [.mk (some 6) none (.p (.move (.tmp 0))), .mk (some 7) none (.call (.lit (.func 69 [])) [.tmp 6])])
  (.seq (.ops [.mk (some 8) none (.p (.move (.tmp 0))), .mk (some 9) none (.p (.move (.tmp 0))), .mk (some 10) none (.p (.nilchk (.tmp 9))), .mk (some 11) none (.p (.faddr 1 (.tmp 10))), .mk (some 12) none (.p (.load1 (.tmp 11))), .mk (some 13) none (.p (.move (.tmp 1))), .mk (some 14) none (.w (.append 5 1 1 (.tmp 12) (.tmp 13))), .mk (some 15) none (.p (.nilchk (.tmp 8))), .mk (some 16) none (.p (.faddr 1 (.tmp 15))), .mk none none (.w (.store 1 (.tmp 16) (.tmp 14)))])
  (.seq (.ops [.mk (some 17) none (.p (.move (.tmp 1))), .mk (some 18) none (.p (.lenT (.tmp 17))), .mk (some 4) none (.p (.move (.tmp 18))), .mk (some 5) none (.p (.move (.lit .nili)))])
  .ret)))), [.tmp 4, .tmp 5]⟩
theorem code62 (own : OwnT) (mode : FuncId → Nat) : (slimPrg Tryd.prog own mode).code 62 = some c62 := by kernel_rfl
-- thunk/natural.is
def c63 : SFunc := ⟨6, (.seq (.ops [.mk (some 2) none (.a (.newc 71 [.int IntKind.i64 0, .str [], .nilp, .nilp, .int IntKind.i64 0, .str [], .nils, .nils, .nilp, .nils]))])
  (.seq (.seq (.ops [.mk (some 3) none (.p (.move (.tmp 0)))])
  (.cond (.tmp 3)
  (.seq (.ops [.mk (some 4) none (.p (.build [.int IntKind.i64 0, .str [], .nilp, .nilp, .int IntKind.i64 0, .str [], .nils, .nils, .nilp, .nils] [(0, 1, .lit (.int IntKind.i64 2)), (1, 1, .lit (.str [35, 116]))])), .mk none none (.w (.store 10 (.tmp 2) (.tmp 4)))])
  .ret)
  .skip))
  (.seq (.ops [.mk (some 5) none (.p (.build [.int IntKind.i64 0, .str [], .nilp, .nilp, .int IntKind.i64 0, .str [], .nils, .nils, .nilp, .nils] [(0, 1, .lit (.int IntKind.i64 2)), (1, 1, .lit (.str [35, 102]))])), .mk none none (.w (.store 10 (.tmp 2) (.tmp 5)))])
  .ret))), [.celln 2 10]⟩
theorem code63 (own : OwnT) (mode : FuncId → Nat) : (slimPrg Tryd.prog own mode).code 63 = some c63 := by kernel_rfl
-- thunk/natural.numbers
def c64 : SFunc := ⟨70, (.seq (.ops [.mk (some 6) none (.a (.newc 71 [.int IntKind.i64 0, .str [], .nilp, .nilp, .int IntKind.i64 0, .str [], .nils, .nils, .nilp, .nils]))])
  (.seq (.ops [.mk (some 7) none (.p (.move (.lit (.str [])))), .mk (some 8) none (.p (.move (.lit (.bool true))))])
  (.seq (.seq (.ops [.mk (some 12) none (.p (.move (.tmp 0)))])
  (.block 0 (.seq (.ops [.mk (some 28) none (.p (.bin .eql .none (.tmp 12) (.lit (.str [43])))), .mk (some 27) none (.p (.move (.tmp 28)))])
  (.cond (.tmp 27)
  (.ops [.mk (some 30) none (.p (.move (.tmp 1))), .mk (some 31) none (.p (.move (.tmp 2))), .mk (some 32) none (.call (.lit (.func 70 [])) [.tmp 30, .tmp 31]), .mk (some 29) none (.p (.move (.tmp 32))), .mk (some 33) none (.p (.extract (.tmp 29) 0)), .mk (some 34) none (.p (.extract (.tmp 29) 1)), .mk (some 7) none (.p (.move (.tmp 33))), .mk (some 8) none (.p (.move (.tmp 34)))])
  (.seq (.ops [.mk (some 36) none (.p (.bin .eql .none (.tmp 12) (.lit (.str [45])))), .mk (some 35) none (.p (.move (.tmp 36)))])
  (.cond (.tmp 35)
  (.ops [.mk (some 38) none (.p (.move (.tmp 1))), .mk (some 39) none (.p (.move (.tmp 2))), .mk (some 40) none (.call (.lit (.func 71 [])) [.tmp 38, .tmp 39]), .mk (some 37) none (.p (.move (.tmp 40))), .mk (some 41) none (.p (.extract (.tmp 37) 0)), .mk (some 42) none (.p (.extract (.tmp 37) 1)), .mk (some 7) none (.p (.move (.tmp 41))), .mk (some 8) none (.p (.move (.tmp 42)))])
  (.seq (.ops [.mk (some 44) none (.p (.bin .eql .none (.tmp 12) (.lit (.str [42])))), .mk (some 43) none (.p (.move (.tmp 44)))])
  (.cond (.tmp 43)
  (.ops [.mk (some 46) none (.p (.move (.tmp 1))), .mk (some 47) none (.p (.move (.tmp 2))), .mk (some 48) none (.call (.lit (.func 72 [])) [.tmp 46, .tmp 47]), .mk (some 45) none (.p (.move (.tmp 48))), .mk (some 49) none (.p (.extract (.tmp 45) 0)), .mk (some 50) none (.p (.extract (.tmp 45) 1)), .mk (some 7) none (.p (.move (.tmp 49))), .mk (some 8) none (.p (.move (.tmp 50)))])
  (.seq (.ops [.mk (some 52) none (.p (.bin .eql .none (.tmp 12) (.lit (.str [60])))), .mk (some 51) none (.p (.move (.tmp 52)))])
  (.cond (.tmp 51)
  (.seq (.ops [.mk (some 53) none (.p (.move (.tmp 1))), .mk (some 54) none (.p (.move (.tmp 2))), .mk (some 55) none (.call (.lit (.func 73 [])) [.tmp 53, .tmp 54]), .mk (some 56) none (.p (.bin .lss .none (.tmp 55) (.lit (.int IntKind.i64 0)))), .mk (some 57) none (.call (.lit (.func 63 [])) [.tmp 56]), .mk none none (.w (.store 10 (.tmp 6) (.tmp 57)))])
  .ret)
  (.seq (.ops [.mk (some 59) none (.p (.bin .eql .none (.tmp 12) (.lit (.str [61])))), .mk (some 58) none (.p (.move (.tmp 59)))])
  (.cond (.tmp 58)
  (.seq (.ops [.mk (some 60) none (.p (.move (.tmp 1))), .mk (some 61) none (.p (.move (.tmp 2))), .mk (some 62) none (.call (.lit (.func 73 [])) [.tmp 60, .tmp 61]), .mk (some 63) none (.p (.bin .eql .none (.tmp 62) (.lit (.int IntKind.i64 0)))), .mk (some 64) none (.call (.lit (.func 63 [])) [.tmp 63]), .mk none none (.w (.store 10 (.tmp 6) (.tmp 64)))])
  .ret)
  (.seq (.ops [.mk (some 14) none (.p (.move (.tmp 1))), .mk (some 15) none (.p (.move (.tmp 2))), .mk (some 16) none (.call (.lit (.func 74 [])) [.tmp 14, .tmp 15]), .mk (some 13) none (.p (.move (.tmp 16))), .mk (some 17) none (.p (.extract (.tmp 13) 0)), .mk (some 18) none (.p (.extract (.tmp 13) 1)), .mk (some 19) none (.p (.extract (.tmp 13) 2)), .mk (some 9) none (.p (.move (.tmp 17))), .mk (some 10) none (.p (.move (.tmp 18))), .mk (some 11) none (.p (.move (.tmp 19)))])
  (.seq (.seq (.ops [.mk (some 20) none (.p (.move (.tmp 11))), .mk (some 21) none (.p (.not (.tmp 20)))])
  (.cond (.tmp 21)
  (.ops [.mk (some 22) none (.call (.lit (.func 61 [])) [.lit (.int IntKind.i64 2), .lit (.str [122, 101, 114, 111])])])
  .skip))
  (.seq (.ops [.mk (some 23) none (.p (.move (.tmp 9))), .mk (some 7) none (.p (.move (.tmp 23)))])
  (.seq (.ops [.mk (some 24) none (.p (.move (.tmp 0))), .mk (some 25) none (.p (.bin .eql .none (.tmp 24) (.lit (.str [114, 101, 109, 97, 105, 110, 100, 101, 114]))))])
  (.cond (.tmp 25)
  (.ops [.mk (some 26) none (.p (.move (.tmp 10))), .mk (some 7) none (.p (.move (.tmp 26)))])
  .skip)))))))))))))))))
  (.seq (.seq (.ops [.mk (some 65) none (.p (.move (.tmp 8))), .mk (some 66) none (.p (.not (.tmp 65)))])
  (.cond (.tmp 66)
  (.ops [.mk (some 67) none (.call (.lit (.func 61 [])) [.lit (.int IntKind.i64 7), .lit (.str [])])])
  .skip))
  (.seq (.ops [.mk (some 68) none (.p (.move (.tmp 7))), .mk (some 69) none (.p (.build [.int IntKind.i64 0, .str [], .nilp, .nilp, .int IntKind.i64 0, .str [], .nils, .nils, .nilp, .nils] [(0, 1, .lit (.int IntKind.i64 1)), (1, 1, .tmp 68)])), .mk none none (.w (.store 10 (.tmp 6) (.tmp 69)))])
  .ret))))), [.celln 6 10]⟩
theorem code64 (own : OwnT) (mode : FuncId → Nat) : (slimPrg Tryd.prog own mode).code 64 = some c64 := by kernel_rfl
-- thunk/thunkref7.digits
def c65 : SFunc := ⟨17, (.seq (.ops [.mk (some 2) none (.p (.move (.lit (.str []))))])
  (.seq (.seq (.ops [.mk (some 3) none (.p (.move (.tmp 0))), .mk (some 4) none (.p (.bin .geq .none (.tmp 3) (.lit (.int IntKind.i64 10))))])
  (.cond (.tmp 4)
  (.seq (.ops [.mk (some 5) none (.p (.move (.tmp 0))), .mk (some 6) none (.p (.bin .quo .none (.tmp 5) (.lit (.int IntKind.i64 10)))), .mk (some 7) none (.call (.lit (.func 65 [])) [.tmp 6]), .mk (some 8) none (.p (.move (.tmp 0))), .mk (some 9) none (.p (.bin .rem .none (.tmp 8) (.lit (.int IntKind.i64 10)))), .mk (some 10) none (.call (.lit (.func 65 [])) [.tmp 9]), .mk (some 11) none (.p (.bin .add .none (.tmp 7) (.tmp 10))), .mk (some 2) none (.p (.move (.tmp 11)))])
  .ret)
  .skip))
  (.seq (.ops [.mk (some 12) none (.p (.move (.tmp 0))), .mk (some 13) none (.p (.bin .add .none (.lit (.int IntKind.i64 48)) (.tmp 12))), .mk (some 14) none (.p (.toInt IntKind.u8 (.tmp 13))), .mk (some 15) none (.a (.buildS [.int IntKind.u8 0] 1 [(0, 1, .tmp 14)])), .mk (some 16) none (.p (.bytesStr (.tmp 15))), .mk (some 2) none (.p (.move (.tmp 16)))])
  .ret))), [.tmp 2]⟩
theorem code65 (own : OwnT) (mode : FuncId → Nat) : (slimPrg Tryd.prog own mode).code 65 = some c65 := by kernel_rfl
-- thunk/big.Add
def c70 : SFunc := ⟨14, (.seq (.ops [.mk (some 4) none (.p (.move (.lit (.str [])))), .mk (some 5) none (.p (.move (.lit (.bool false))))])
  (.seq (.ops [.mk (some 6) none (.p (.move (.tmp 0))), .mk (some 7) none (.call (.lit (.func 82 [])) [.tmp 6]), .mk (some 8) none (.p (.move (.tmp 1))), .mk (some 9) none (.call (.lit (.func 82 [])) [.tmp 8]), .mk (some 10) none (.call (.lit (.func 81 [])) [.tmp 7, .tmp 9]), .mk (some 11) none (.call (.lit (.func 83 [])) [.tmp 10]), .mk (some 12) none (.p (.extract (.tmp 11) 0)), .mk (some 13) none (.p (.extract (.tmp 11) 1)), .mk (some 4) none (.p (.move (.tmp 12))), .mk (some 5) none (.p (.move (.tmp 13)))])
  .ret)), [.tmp 4, .tmp 5]⟩
theorem code70 (own : OwnT) (mode : FuncId → Nat) : (slimPrg Tryd.prog own mode).code 70 = some c70 := by kernel_rfl
-- thunk/big.Sub
def c71 : SFunc := ⟨20, (.seq (.ops [.mk (some 4) none (.p (.move (.lit (.str [])))), .mk (some 5) none (.p (.move (.lit (.bool false))))])
  (.seq (.ops [.mk (some 7) none (.p (.move (.tmp 1))), .mk (some 8) none (.call (.lit (.func 82 [])) [.tmp 7]), .mk (some 6) none (.a (.newc 138 [.bool false, .nils])), .mk none none (.w (.store 2 (.tmp 6) (.tmp 8)))])
  (.seq (.ops [.mk (some 9) none (.p (.faddr 0 (.tmp 6))), .mk (some 10) none (.p (.load1 (.tmp 9))), .mk (some 11) none (.p (.not (.tmp 10))), .mk (some 12) none (.p (.faddr 0 (.tmp 6))), .mk none none (.w (.store 1 (.tmp 12) (.tmp 11)))])
  (.seq (.draw [.mk (some 13) none (.p (.move (.tmp 0))), .mk (some 15) none (.p (.loadn 2 (.tmp 6)))] [(.mk (some 14) none (.call (.lit (.func 82 [])) [.tmp 13]), [.mk (some 15) none (.p (.loadn 2 (.tmp 6)))], []), (.mk (some 16) none (.call (.lit (.func 81 [])) [.tmp 14, .tmp 15]), [], []), (.mk (some 17) none (.call (.lit (.func 83 [])) [.tmp 16]), [], [.mk (some 18) none (.p (.extract (.tmp 17) 0)), .mk (some 19) none (.p (.extract (.tmp 17) 1)), .mk (some 4) none (.p (.move (.tmp 18))), .mk (some 5) none (.p (.move (.tmp 19)))])])
  .ret)))), [.tmp 4, .tmp 5]⟩
theorem code71 (own : OwnT) (mode : FuncId → Nat) : (slimPrg Tryd.prog own mode).code 71 = some c71 := by kernel_rfl
-- thunk/big.Mul
def c72_l0 : SCode :=
  (.seq (.seq (.ops [.mk (some 35) none (.p (.move (.tmp 12))), .mk (some 36) none (.p (.faddr 1 (.tmp 7))), .mk (some 37) none (.p (.load1 (.tmp 36))), .mk (some 38) none (.p (.lenS (.tmp 37))), .mk (some 39) none (.p (.bin .lss .none (.tmp 35) (.tmp 38))), .mk (some 40) none (.p (.move (.tmp 39))), .mk (some 41) (some (40, false)) (.p (.move (.tmp 11))), .mk (some 42) (some (40, false)) (.p (.bin .gtr .none (.tmp 41) (.lit (.int IntKind.i64 0)))), .mk (some 43) none (.p (.pick (.tmp 40) (.lit (.bool true)) (.tmp 42)))])
  (.cond (.tmp 43)
  .skip
  (.exit 2)))
  (.seq (.block 3 (.seq (.draw [.mk (some 46) none (.p (.move (.tmp 8))), .mk (some 47) none (.p (.move (.tmp 9))), .mk (some 48) none (.p (.move (.tmp 12))), .mk (some 49) none (.p (.bin .add .none (.tmp 47) (.tmp 48))), .mk (some 50) none (.p (.iaddr 1 (.tmp 46) (.tmp 49))), .mk (some 51) none (.p (.load1 (.tmp 50))), .mk (some 52) none (.p (.move (.tmp 10))), .mk (some 53) none (.p (.faddr 1 (.tmp 7))), .mk (some 54) none (.p (.load1 (.tmp 53))), .mk (some 55) none (.p (.move (.tmp 12))), .mk (some 59) none (.p (.move (.tmp 11)))] [(.mk (some 56) none (.call (.lit (.func 84 [])) [.tmp 54, .tmp 55]), [.mk (some 51) none (.p (.load1 (.tmp 50)))], [.mk (some 57) none (.p (.bin .mul .none (.tmp 52) (.tmp 56))), .mk (some 58) none (.p (.bin .add .none (.tmp 51) (.tmp 57))), .mk (some 60) none (.p (.bin .add .none (.tmp 58) (.tmp 59))), .mk (some 13) none (.p (.move (.tmp 60)))])])
  (.ops [.mk (some 61) none (.p (.move (.tmp 8))), .mk (some 62) none (.p (.move (.tmp 9))), .mk (some 63) none (.p (.move (.tmp 12))), .mk (some 64) none (.p (.bin .add .none (.tmp 62) (.tmp 63))), .mk (some 65) none (.p (.move (.tmp 13))), .mk (some 66) none (.p (.bin .rem .none (.tmp 65) (.lit (.int IntKind.i64 1000000000)))), .mk (some 67) none (.p (.move (.tmp 13))), .mk (some 68) none (.p (.bin .quo .none (.tmp 67) (.lit (.int IntKind.i64 1000000000)))), .mk (some 69) none (.p (.iaddr 1 (.tmp 61) (.tmp 64))), .mk none none (.w (.store 1 (.tmp 69) (.tmp 66))), .mk (some 11) none (.p (.move (.tmp 68)))])))
  (.ops [.mk (some 44) none (.p (.move (.tmp 12))), .mk (some 45) none (.p (.bin .add .none (.tmp 44) (.lit (.int IntKind.i64 1)))), .mk (some 12) none (.p (.move (.tmp 45)))])))
def c72_l1 : SCode :=
  (.seq (.ops [.mk (some 31) none (.p (.bin .lss .none (.tmp 30) (.tmp 29)))])
  (.seq (.cond (.tmp 31)
  .skip
  (.exit 0))
  (.seq (.block 1 (.seq (.ops [.mk (some 32) none (.p (.move (.tmp 30))), .mk (some 33) none (.p (.iaddr 1 (.tmp 28) (.tmp 30))), .mk (some 34) none (.p (.load1 (.tmp 33))), .mk (some 9) none (.p (.move (.tmp 32))), .mk (some 10) none (.p (.move (.tmp 34)))])
  (.seq (.ops [.mk (some 11) none (.p (.move (.lit (.int IntKind.i64 0))))])
  (.seq (.ops [.mk (some 12) none (.p (.move (.lit (.int IntKind.i64 0))))])
  (.block 2 (.loop c72_l0))))))
  (.ops [.mk (some 70) none (.p (.bin .add .none (.tmp 30) (.lit (.int IntKind.i64 1)))), .mk (some 30) none (.p (.move (.tmp 70)))]))))
def c72 : SFunc := ⟨82, (.seq (.ops [.mk (some 4) none (.p (.move (.lit (.str [])))), .mk (some 5) none (.p (.move (.lit (.bool false))))])
  (.seq (.ops [.mk (some 14) none (.p (.move (.tmp 0))), .mk (some 15) none (.call (.lit (.func 82 [])) [.tmp 14]), .mk (some 16) none (.p (.move (.tmp 1))), .mk (some 17) none (.call (.lit (.func 82 [])) [.tmp 16]), .mk (some 6) none (.a (.newc 138 [.bool false, .nils])), .mk (some 7) none (.a (.newc 138 [.bool false, .nils])), .mk none none (.w (.store 2 (.tmp 6) (.tmp 15))), .mk none none (.w (.store 2 (.tmp 7) (.tmp 17)))])
  (.seq (.ops [.mk (some 18) none (.p (.faddr 1 (.tmp 6))), .mk (some 19) none (.p (.load1 (.tmp 18))), .mk (some 20) none (.p (.lenS (.tmp 19))), .mk (some 21) none (.p (.faddr 1 (.tmp 7))), .mk (some 22) none (.p (.load1 (.tmp 21))), .mk (some 23) none (.p (.lenS (.tmp 22))), .mk (some 24) none (.p (.bin .add .none (.tmp 20) (.tmp 23))), .mk (some 25) none (.p (.bin .add .none (.tmp 24) (.lit (.int IntKind.i64 1)))), .mk (some 26) none (.a (.makeS [.int IntKind.i64 0] 8 (.tmp 25) (.tmp 25))), .mk (some 8) none (.p (.move (.tmp 26)))])
  (.seq (.seq (.ops [.mk (some 27) none (.p (.faddr 1 (.tmp 6))), .mk (some 28) none (.p (.load1 (.tmp 27))), .mk (some 29) none (.p (.lenS (.tmp 28))), .mk (some 30) none (.p (.move (.lit (.int IntKind.i64 0))))])
  (.block 0 (.loop c72_l1)))
  (.seq (.draw [.mk (some 71) none (.p (.faddr 0 (.tmp 6))), .mk (some 72) none (.p (.load1 (.tmp 71))), .mk (some 73) none (.p (.faddr 0 (.tmp 7))), .mk (some 74) none (.p (.load1 (.tmp 73))), .mk (some 75) none (.p (.bin .neq .bool (.tmp 72) (.tmp 74))), .mk (some 76) none (.p (.move (.tmp 8)))] [(.mk (some 77) none (.call (.lit (.func 85 [])) [.tmp 76]), [.mk (some 72) none (.p (.load1 (.tmp 71))), .mk (some 74) none (.p (.load1 (.tmp 73)))], [.mk (some 78) none (.p (.build [.bool false, .nils] [(0, 1, .tmp 75), (1, 1, .tmp 77)]))]), (.mk (some 79) none (.call (.lit (.func 83 [])) [.tmp 78]), [], [.mk (some 80) none (.p (.extract (.tmp 79) 0)), .mk (some 81) none (.p (.extract (.tmp 79) 1)), .mk (some 4) none (.p (.move (.tmp 80))), .mk (some 5) none (.p (.move (.tmp 81)))])])
  .ret))))), [.tmp 4, .tmp 5]⟩
theorem code72 (own : OwnT) (mode : FuncId → Nat) : (slimPrg Tryd.prog own mode).code 72 = some c72 := by kernel_rfl
-- thunk/big.Cmp
def c73 : SFunc := ⟨27, (.seq (.ops [.mk (some 4) none (.p (.move (.lit (.int IntKind.i64 0))))])
  (.seq (.ops [.mk (some 8) none (.p (.move (.tmp 0))), .mk (some 9) none (.call (.lit (.func 82 [])) [.tmp 8]), .mk (some 10) none (.p (.move (.tmp 1))), .mk (some 11) none (.call (.lit (.func 82 [])) [.tmp 10]), .mk (some 5) none (.a (.newc 138 [.bool false, .nils])), .mk (some 6) none (.a (.newc 138 [.bool false, .nils])), .mk none none (.w (.store 2 (.tmp 5) (.tmp 9))), .mk none none (.w (.store 2 (.tmp 6) (.tmp 11)))])
  (.seq (.draw [.mk (some 12) none (.p (.loadn 2 (.tmp 5))), .mk (some 13) none (.p (.faddr 0 (.tmp 6))), .mk (some 14) none (.p (.load1 (.tmp 13))), .mk (some 15) none (.p (.not (.tmp 14))), .mk (some 16) none (.p (.faddr 1 (.tmp 6))), .mk (some 17) none (.p (.load1 (.tmp 16))), .mk (some 7) none (.a (.newc 138 [.bool false, .nils]))] [(.mk (some 18) none (.call (.lit (.func 86 [])) [.tmp 17]), [.mk (some 12) none (.p (.loadn 2 (.tmp 5))), .mk (some 14) none (.p (.load1 (.tmp 13)))], [.mk (some 19) none (.p (.build [.bool false, .nils] [(0, 1, .tmp 15), (1, 1, .tmp 18)]))]), (.mk (some 20) none (.call (.lit (.func 81 [])) [.tmp 12, .tmp 19]), [], []), (.mk none none (.w (.store 2 (.tmp 7) (.tmp 20))), [], [])])
  (.seq (.seq (.ops [.mk (some 21) none (.p (.faddr 1 (.tmp 7))), .mk (some 22) none (.p (.load1 (.tmp 21))), .mk (some 23) none (.p (.lenS (.tmp 22))), .mk (some 24) none (.p (.bin .eql .none (.tmp 23) (.lit (.int IntKind.i64 0))))])
  (.cond (.tmp 24)
  (.seq (.ops [.mk (some 4) none (.p (.move (.lit (.int IntKind.i64 0))))])
  .ret)
  .skip))
  (.seq (.seq (.ops [.mk (some 25) none (.p (.faddr 0 (.tmp 7))), .mk (some 26) none (.p (.load1 (.tmp 25)))])
  (.cond (.tmp 26)
  (.seq (.ops [.mk (some 4) none (.p (.move (.lit (.int IntKind.i64 (-1)))))])
  .ret)
  .skip))
  (.seq (.ops [.mk (some 4) none (.p (.move (.lit (.int IntKind.i64 1))))])
  .ret)))))), [.tmp 4]⟩
theorem code73 (own : OwnT) (mode : FuncId → Nat) : (slimPrg Tryd.prog own mode).code 73 = some c73 := by kernel_rfl
-- thunk/big.Quo
def c74_l0 : SCode :=
  (.seq (.seq (.ops [.mk (some 48) none (.p (.move (.tmp 9))), .mk (some 49) none (.p (.faddr 1 (.tmp 8))), .mk (some 50) none (.p (.load1 (.tmp 49))), .mk (some 51) none (.call (.lit (.func 89 [])) [.tmp 48, .tmp 50]), .mk (some 52) none (.p (.bin .geq .none (.tmp 51) (.lit (.int IntKind.i64 0))))])
  (.cond (.tmp 52)
  .skip
  (.exit 2)))
  (.seq (.block 3 (.ops [.mk (some 55) none (.p (.move (.tmp 9))), .mk (some 56) none (.p (.faddr 1 (.tmp 8))), .mk (some 57) none (.p (.load1 (.tmp 56))), .mk (some 58) none (.call (.lit (.func 90 [])) [.tmp 55, .tmp 57]), .mk (some 9) none (.p (.move (.tmp 58)))]))
  (.ops [.mk (some 53) none (.p (.move (.tmp 14))), .mk (some 54) none (.p (.bin .add .none (.tmp 53) (.lit (.int IntKind.u8 1)))), .mk (some 14) none (.p (.move (.tmp 54)))])))
def c74_l1 : SCode :=
  (.seq (.ops [.mk (some 26) none (.w (.nextT (.tmp 25))), .mk (some 27) none (.p (.extract (.tmp 26) 0))])
  (.seq (.cond (.tmp 27)
  .skip
  (.exit 0))
  (.block 1 (.seq (.ops [.mk (some 28) none (.p (.extract (.tmp 26) 2)), .mk (some 12) none (.p (.move (.tmp 28)))])
  (.seq (.ops [.mk (some 29) none (.p (.move (.tmp 9))), .mk (some 30) none (.p (.move (.tmp 9))), .mk (some 31) none (.call (.lit (.func 88 [])) [.tmp 29, .tmp 30]), .mk (some 9) none (.p (.move (.tmp 31)))])
  (.seq (.ops [.mk (some 32) none (.p (.move (.tmp 9))), .mk (some 13) none (.p (.move (.tmp 32)))])
  (.seq (.ops [.mk (some 33) none (.p (.move (.tmp 9))), .mk (some 34) none (.p (.move (.tmp 9))), .mk (some 35) none (.call (.lit (.func 88 [])) [.tmp 33, .tmp 34]), .mk (some 36) none (.p (.move (.tmp 9))), .mk (some 37) none (.p (.move (.tmp 9))), .mk (some 38) none (.call (.lit (.func 88 [])) [.tmp 36, .tmp 37]), .mk (some 39) none (.call (.lit (.func 88 [])) [.tmp 35, .tmp 38]), .mk (some 9) none (.p (.move (.tmp 39)))])
  (.seq (.ops [.mk (some 40) none (.p (.move (.tmp 9))), .mk (some 41) none (.p (.move (.tmp 13))), .mk (some 42) none (.call (.lit (.func 88 [])) [.tmp 40, .tmp 41]), .mk (some 43) none (.p (.move (.tmp 12))), .mk (some 44) none (.p (.bin .sub .none (.tmp 43) (.lit (.int IntKind.i32 48)))), .mk (some 45) none (.p (.toInt IntKind.i64 (.tmp 44))), .mk (some 46) none (.a (.buildS [.int IntKind.i64 0] 1 [(0, 1, .tmp 45)])), .mk (some 47) none (.call (.lit (.func 88 [])) [.tmp 42, .tmp 46]), .mk (some 9) none (.p (.move (.tmp 47)))])
  (.seq (.ops [.mk (some 14) none (.p (.move (.lit (.int IntKind.u8 48))))])
  (.seq (.block 2 (.loop c74_l0))
  (.ops [.mk (some 59) none (.p (.move (.tmp 10))), .mk (some 60) none (.p (.move (.tmp 14))), .mk (some 61) none (.a (.buildS [.int IntKind.u8 0] 1 [(0, 1, .tmp 60)])), .mk (some 62) none (.w (.append 5 1 1 (.tmp 59) (.tmp 61))), .mk (some 10) none (.p (.move (.tmp 62)))])))))))))))
def c74 : SFunc := ⟨87, (.seq (.ops [.mk (some 4) none (.p (.move (.lit (.str [])))), .mk (some 5) none (.p (.move (.lit (.str [])))), .mk (some 6) none (.p (.move (.lit (.bool false))))])
  (.seq (.ops [.mk (some 15) none (.p (.move (.tmp 0))), .mk (some 16) none (.call (.lit (.func 82 [])) [.tmp 15]), .mk (some 17) none (.p (.move (.tmp 1))), .mk (some 18) none (.call (.lit (.func 82 [])) [.tmp 17]), .mk (some 7) none (.a (.newc 138 [.bool false, .nils])), .mk (some 8) none (.a (.newc 138 [.bool false, .nils])), .mk none none (.w (.store 2 (.tmp 7) (.tmp 16))), .mk none none (.w (.store 2 (.tmp 8) (.tmp 18)))])
  (.seq (.seq (.ops [.mk (some 19) none (.p (.faddr 1 (.tmp 8))), .mk (some 20) none (.p (.load1 (.tmp 19))), .mk (some 21) none (.p (.lenS (.tmp 20))), .mk (some 22) none (.p (.bin .eql .none (.tmp 21) (.lit (.int IntKind.i64 0))))])
  (.cond (.tmp 22)
  (.seq (.ops [.mk (some 4) none (.p (.move (.lit (.str [])))), .mk (some 5) none (.p (.move (.lit (.str [])))), .mk (some 6) none (.p (.move (.lit (.bool false))))])
  .ret)
  .skip))
  (.seq (.ops [.mk (some 9) none (.p (.move (.lit .nils)))])
  (.seq (.ops [.mk (some 10) none (.p (.move (.lit .nils)))])
  (.seq (.seq (.ops [.mk (some 23) none (.p (.move (.tmp 0))), .mk (some 24) none (.call (.lit (.func 87 [])) [.tmp 23, .lit (.str [45])]), .mk (some 25) none (.a (.rangeT (.tmp 24)))])
  (.block 0 (.loop c74_l1)))
  (.seq (.draw [.mk (some 64) none (.p (.faddr 0 (.tmp 7))), .mk (some 65) none (.p (.load1 (.tmp 64))), .mk (some 66) none (.p (.faddr 0 (.tmp 8))), .mk (some 67) none (.p (.load1 (.tmp 66))), .mk (some 68) none (.p (.bin .neq .bool (.tmp 65) (.tmp 67))), .mk (some 69) none (.p (.move (.tmp 10))), .mk (some 70) none (.p (.bytesStr (.tmp 69)))] [(.mk (some 71) none (.call (.lit (.func 82 [])) [.tmp 70]), [.mk (some 65) none (.p (.load1 (.tmp 64))), .mk (some 67) none (.p (.load1 (.tmp 66)))], [.mk (some 72) none (.p (.field1 1 (.tmp 71))), .mk (some 73) none (.p (.build [.bool false, .nils] [(0, 1, .tmp 68), (1, 1, .tmp 72)]))]), (.mk (some 74) none (.call (.lit (.func 83 [])) [.tmp 73]), [], [.mk (some 63) none (.p (.move (.tmp 74))), .mk (some 75) none (.p (.extract (.tmp 63) 0)), .mk (some 76) none (.p (.extract (.tmp 63) 1)), .mk (some 4) none (.p (.move (.tmp 75)))])])
  (.seq (.ops [.mk (some 78) none (.p (.faddr 0 (.tmp 7))), .mk (some 79) none (.p (.load1 (.tmp 78))), .mk (some 80) none (.p (.move (.tmp 9))), .mk (some 81) none (.p (.build [.bool false, .nils] [(0, 1, .tmp 79), (1, 1, .tmp 80)])), .mk (some 82) none (.call (.lit (.func 83 [])) [.tmp 81]), .mk (some 77) none (.p (.move (.tmp 82))), .mk (some 83) none (.p (.extract (.tmp 77) 0)), .mk (some 84) none (.p (.extract (.tmp 77) 1)), .mk (some 5) none (.p (.move (.tmp 83)))])
  (.seq (.ops [.mk (some 85) none (.p (.move (.tmp 4))), .mk (some 86) none (.p (.move (.tmp 5))), .mk (some 4) none (.p (.move (.tmp 85))), .mk (some 5) none (.p (.move (.tmp 86))), .mk (some 6) none (.p (.move (.lit (.bool true))))])
  .ret))))))))), [.tmp 4, .tmp 5, .tmp 6]⟩
theorem code74 (own : OwnT) (mode : FuncId → Nat) : (slimPrg Tryd.prog own mode).code 74 = some c74 := by kernel_rfl
-- thunk/big.sum
def c81 : SFunc := ⟨36, (.seq (.ops [.mk (some 2) none (.a (.box 138 (.tmp 0))), .mk (some 3) none (.a (.box 138 (.tmp 1))), .mk (some 4) none (.a (.newc 138 [.bool false, .nils]))])
  (.seq (.seq (.ops [.mk (some 5) none (.p (.faddr 0 (.tmp 2))), .mk (some 6) none (.p (.load1 (.tmp 5))), .mk (some 7) none (.p (.build [.bool false] [(0, 1, .tmp 6)])), .mk (some 8) none (.p (.faddr 0 (.tmp 3))), .mk (some 9) none (.p (.load1 (.tmp 8))), .mk (some 10) none (.p (.build [.bool false] [(0, 1, .tmp 9)])), .mk (some 11) none (.p (.bin .eql (.many [(0, 0)]) (.tmp 7) (.tmp 10)))])
  (.cond (.tmp 11)
  (.seq (.draw [.mk (some 12) none (.p (.faddr 0 (.tmp 2))), .mk (some 13) none (.p (.load1 (.tmp 12))), .mk (some 14) none (.p (.faddr 1 (.tmp 2))), .mk (some 15) none (.p (.load1 (.tmp 14))), .mk (some 16) none (.p (.faddr 1 (.tmp 3))), .mk (some 17) none (.p (.load1 (.tmp 16)))] [(.mk (some 18) none (.call (.lit (.func 88 [])) [.tmp 15, .tmp 17]), [.mk (some 13) none (.p (.load1 (.tmp 12)))], [.mk (some 19) none (.p (.build [.bool false, .nils] [(0, 1, .tmp 13), (1, 1, .tmp 18)]))]), (.mk none none (.w (.store 2 (.tmp 4) (.tmp 19))), [], [])])
  .ret)
  .skip))
  (.seq (.seq (.ops [.mk (some 20) none (.p (.faddr 1 (.tmp 2))), .mk (some 21) none (.p (.load1 (.tmp 20))), .mk (some 22) none (.p (.faddr 1 (.tmp 3))), .mk (some 23) none (.p (.load1 (.tmp 22))), .mk (some 24) none (.call (.lit (.func 89 [])) [.tmp 21, .tmp 23]), .mk (some 25) none (.p (.bin .lss .none (.tmp 24) (.lit (.int IntKind.i64 0))))])
  (.cond (.tmp 25)
  (.ops [.mk (some 26) none (.p (.loadn 2 (.tmp 3))), .mk (some 27) none (.p (.loadn 2 (.tmp 2))), .mk none none (.w (.store 2 (.tmp 2) (.tmp 26))), .mk none none (.w (.store 2 (.tmp 3) (.tmp 27)))])
  .skip))
  (.seq (.draw [.mk (some 28) none (.p (.faddr 0 (.tmp 2))), .mk (some 29) none (.p (.load1 (.tmp 28))), .mk (some 30) none (.p (.faddr 1 (.tmp 2))), .mk (some 31) none (.p (.load1 (.tmp 30))), .mk (some 32) none (.p (.faddr 1 (.tmp 3))), .mk (some 33) none (.p (.load1 (.tmp 32)))] [(.mk (some 34) none (.call (.lit (.func 90 [])) [.tmp 31, .tmp 33]), [.mk (some 29) none (.p (.load1 (.tmp 28)))], [.mk (some 35) none (.p (.build [.bool false, .nils] [(0, 1, .tmp 29), (1, 1, .tmp 34)]))]), (.mk none none (.w (.store 2 (.tmp 4) (.tmp 35))), [], [])])
  .ret)))), [.celln 4 2]⟩
theorem code81 (own : OwnT) (mode : FuncId → Nat) : (slimPrg Tryd.prog own mode).code 81 = some c81 := by kernel_rfl
-- thunk/big.load
def c82_l0 : SCode :=
  (.seq (.ops [.mk (some 28) none (.w (.nextT (.tmp 27))), .mk (some 29) none (.p (.extract (.tmp 28) 0))])
  (.seq (.cond (.tmp 29)
  .skip
  (.exit 2))
  (.block 3 (.seq (.ops [.mk (some 30) none (.p (.extract (.tmp 28) 2)), .mk (some 9) none (.p (.move (.tmp 30)))])
  (.ops [.mk (some 31) none (.p (.move (.tmp 7))), .mk (some 32) none (.p (.bin .mul .none (.lit (.int IntKind.i64 10)) (.tmp 31))), .mk (some 33) none (.p (.move (.tmp 9))), .mk (some 34) none (.p (.bin .sub .none (.tmp 33) (.lit (.int IntKind.i32 48)))), .mk (some 35) none (.p (.toInt IntKind.i64 (.tmp 34))), .mk (some 36) none (.p (.bin .add .none (.tmp 32) (.tmp 35))), .mk (some 7) none (.p (.move (.tmp 36)))])))))
def c82_l1 : SCode :=
  (.seq (.seq (.ops [.mk (some 17) none (.p (.move (.tmp 6))), .mk (some 18) none (.p (.bin .gtr .none (.tmp 17) (.lit (.int IntKind.i64 0))))])
  (.cond (.tmp 18)
  .skip
  (.exit 0)))
  (.seq (.block 1 (.seq (.ops [.mk (some 7) none (.p (.move (.lit (.int IntKind.i64 0))))])
  (.seq (.seq (.ops [.mk (some 21) none (.p (.move (.tmp 3))), .mk (some 22) none (.p (.move (.tmp 6))), .mk (some 23) none (.p (.bin .sub .none (.tmp 22) (.lit (.int IntKind.i64 9)))), .mk (some 24) none (.p (.max2 (.tmp 23) (.lit (.int IntKind.i64 0)))), .mk (some 25) none (.p (.move (.tmp 6))), .mk (some 26) none (.p (.sliceT (.tmp 21) (some (.tmp 24)) (some (.tmp 25)))), .mk (some 27) none (.a (.rangeT (.tmp 26)))])
  (.block 2 (.loop c82_l0)))
  (.ops [.mk (some 37) none (.p (.move (.tmp 5))), .mk (some 38) none (.p (.move (.tmp 7))), .mk (some 39) none (.a (.buildS [.int IntKind.i64 0] 1 [(0, 1, .tmp 38)])), .mk (some 40) none (.w (.append 3 1 8 (.tmp 37) (.tmp 39))), .mk (some 5) none (.p (.move (.tmp 40)))]))))
  (.ops [.mk (some 19) none (.p (.move (.tmp 6))), .mk (some 20) none (.p (.bin .sub .none (.tmp 19) (.lit (.int IntKind.i64 9)))), .mk (some 6) none (.p (.move (.tmp 20)))])))
def c82 : SFunc := ⟨45, (.seq (.ops [.mk (some 2) none (.a (.newc 138 [.bool false, .nils]))])
  (.seq (.ops [.mk (some 11) none (.p (.move (.tmp 0))), .mk (some 12) none (.call (.lit (.func 97 [])) [.tmp 11, .lit (.str [45])]), .mk (some 10) none (.p (.move (.tmp 12))), .mk (some 13) none (.p (.extract (.tmp 10) 0)), .mk (some 14) none (.p (.extract (.tmp 10) 1)), .mk (some 3) none (.p (.move (.tmp 13))), .mk (some 4) none (.p (.move (.tmp 14)))])
  (.seq (.ops [.mk (some 5) none (.p (.move (.lit .nils)))])
  (.seq (.seq (.ops [.mk (some 15) none (.p (.move (.tmp 3))), .mk (some 16) none (.p (.lenT (.tmp 15))), .mk (some 6) none (.p (.move (.tmp 16)))])
  (.block 0 (.loop c82_l1)))
  (.seq (.ops [.mk (some 41) none (.p (.move (.tmp 4))), .mk (some 42) none (.p (.move (.tmp 5))), .mk (some 43) none (.call (.lit (.func 85 [])) [.tmp 42]), .mk (some 44) none (.p (.build [.bool false, .nils] [(0, 1, .tmp 41), (1, 1, .tmp 43)])), .mk none none (.w (.store 2 (.tmp 2) (.tmp 44)))])
  .ret))))), [.celln 2 2]⟩
theorem code82 (own : OwnT) (mode : FuncId → Nat) : (slimPrg Tryd.prog own mode).code 82 = some c82 := by kernel_rfl
-- (thunk/big.num).text
def c83_l0 : SCode :=
  (.seq (.seq (.ops [.mk (some 15) none (.p (.move (.tmp 5))), .mk (some 16) none (.p (.bin .geq .none (.tmp 15) (.lit (.int IntKind.i64 0))))])
  (.cond (.tmp 16)
  .skip
  (.exit 0)))
  (.seq (.block 1 (.seq (.ops [.mk (some 19) none (.p (.faddr 1 (.tmp 1))), .mk (some 20) none (.p (.load1 (.tmp 19))), .mk (some 21) none (.p (.move (.tmp 5))), .mk (some 22) none (.p (.iaddr 1 (.tmp 20) (.tmp 21))), .mk (some 23) none (.p (.load1 (.tmp 22))), .mk (some 24) none (.call (.lit (.func 98 [])) [.tmp 23]), .mk (some 6) none (.p (.move (.tmp 24)))])
  (.seq (.seq (.ops [.mk (some 25) none (.call (.lit (.func 60 [])) [.tmp 4]), .mk (some 26) none (.p (.bin .gtr .none (.tmp 25) (.lit (.int IntKind.i64 0))))])
  (.cond (.tmp 26)
  (.ops [.mk (some 27) none (.p (.move (.tmp 6))), .mk (some 28) none (.p (.lenT (.tmp 27))), .mk (some 29) none (.p (.bin .sub .none (.lit (.int IntKind.i64 9)) (.tmp 28))), .mk (some 30) none (.call (.lit (.func 99 [])) [.lit (.str [48]), .tmp 29]), .mk (some 31) none (.call (.lit (.func 62 [])) [.tmp 4, .tmp 30])])
  .skip))
  (.ops [.mk (some 32) none (.p (.move (.tmp 6))), .mk (some 33) none (.call (.lit (.func 62 [])) [.tmp 4, .tmp 32])]))))
  (.ops [.mk (some 17) none (.p (.move (.tmp 5))), .mk (some 18) none (.p (.bin .sub .none (.tmp 17) (.lit (.int IntKind.i64 1)))), .mk (some 5) none (.p (.move (.tmp 18)))])))
def c83 : SFunc := ⟨41, (.seq (.ops [.mk (some 1) none (.a (.box 138 (.tmp 0))), .mk (some 2) none (.p (.move (.lit (.str [])))), .mk (some 3) none (.p (.move (.lit (.bool false))))])
  (.seq (.seq (.ops [.mk (some 7) none (.p (.faddr 1 (.tmp 1))), .mk (some 8) none (.p (.load1 (.tmp 7))), .mk (some 9) none (.p (.lenS (.tmp 8))), .mk (some 10) none (.p (.bin .eql .none (.tmp 9) (.lit (.int IntKind.i64 0))))])
  (.cond (.tmp 10)
  (.seq (.ops [.mk (some 2) none (.p (.move (.lit (.str [48])))), .mk (some 3) none (.p (.move (.lit (.bool true))))])
  .ret)
  .skip))
  (.seq (.ops [.mk (some 4) none (.a (.newc 63 [.nilp, .nils]))])
  (.seq (.seq (.ops [.mk (some 11) none (.p (.faddr 1 (.tmp 1))), .mk (some 12) none (.p (.load1 (.tmp 11))), .mk (some 13) none (.p (.lenS (.tmp 12))), .mk (some 14) none (.p (.bin .sub .none (.tmp 13) (.lit (.int IntKind.i64 1)))), .mk (some 5) none (.p (.move (.tmp 14)))])
  (.block 0 (.loop c83_l0)))
  (.seq (.seq (.ops [.mk (some 34) none (.call (.lit (.func 60 [])) [.tmp 4]), .mk (some 35) none (.p (.bin .gtr .none (.tmp 34) (.lit (.int IntKind.i64 200))))])
  (.cond (.tmp 35)
  (.seq (.ops [.mk (some 2) none (.p (.move (.lit (.str [])))), .mk (some 3) none (.p (.move (.lit (.bool false))))])
  .ret)
  .skip))
  (.seq (.seq (.ops [.mk (some 36) none (.p (.faddr 0 (.tmp 1))), .mk (some 37) none (.p (.load1 (.tmp 36)))])
  (.cond (.tmp 37)
  (.seq (.ops [.mk (some 38) none (.call (.lit (.func 29 [])) [.tmp 4]), .mk (some 39) none (.p (.bin .add .none (.lit (.str [45])) (.tmp 38))), .mk (some 2) none (.p (.move (.tmp 39))), .mk (some 3) none (.p (.move (.lit (.bool true))))])
  .ret)
  .skip))
  (.seq (.ops [.mk (some 40) none (.call (.lit (.func 29 [])) [.tmp 4]), .mk (some 2) none (.p (.move (.tmp 40))), .mk (some 3) none (.p (.move (.lit (.bool true))))])
  .ret))))))), [.tmp 2, .tmp 3]⟩
theorem code83 (own : OwnT) (mode : FuncId → Nat) : (slimPrg Tryd.prog own mode).code 83 = some c83 := by kernel_rfl
-- thunk/big.at
def c84 : SFunc := ⟨13, (.seq (.ops [.mk (some 4) none (.p (.move (.lit (.int IntKind.i64 0))))])
  (.seq (.seq (.ops [.mk (some 5) none (.p (.move (.tmp 1))), .mk (some 6) none (.p (.move (.tmp 0))), .mk (some 7) none (.p (.lenS (.tmp 6))), .mk (some 8) none (.p (.bin .lss .none (.tmp 5) (.tmp 7)))])
  (.cond (.tmp 8)
  (.seq (.ops [.mk (some 9) none (.p (.move (.tmp 0))), .mk (some 10) none (.p (.move (.tmp 1))), .mk (some 11) none (.p (.iaddr 1 (.tmp 9) (.tmp 10))), .mk (some 12) none (.p (.load1 (.tmp 11))), .mk (some 4) none (.p (.move (.tmp 12)))])
  .ret)
  .skip))
  (.seq (.ops [.mk (some 4) none (.p (.move (.lit (.int IntKind.i64 0))))])
  .ret))), [.tmp 4]⟩
theorem code84 (own : OwnT) (mode : FuncId → Nat) : (slimPrg Tryd.prog own mode).code 84 = some c84 := by kernel_rfl
-- thunk/big.trim
def c85_l0 : SCode :=
  (.seq (.seq (.ops [.mk (some 6) none (.p (.move (.tmp 3))), .mk (some 7) none (.p (.bin .gtr .none (.tmp 6) (.lit (.int IntKind.i64 0)))), .mk (some 8) none (.p (.move (.tmp 7))), .mk (some 9) (some (8, true)) (.p (.move (.tmp 0))), .mk (some 10) (some (8, true)) (.p (.move (.tmp 3))), .mk (some 11) (some (8, true)) (.p (.bin .sub .none (.tmp 10) (.lit (.int IntKind.i64 1)))), .mk (some 12) (some (8, true)) (.p (.iaddr 1 (.tmp 9) (.tmp 11))), .mk (some 13) (some (8, true)) (.p (.load1 (.tmp 12))), .mk (some 14) (some (8, true)) (.p (.bin .eql .none (.tmp 13) (.lit (.int IntKind.i64 0)))), .mk (some 15) none (.p (.pick (.tmp 8) (.tmp 14) (.lit (.bool false))))])
  (.cond (.tmp 15)
  .skip
  (.exit 0)))
  (.block 1 (.ops [.mk (some 16) none (.p (.move (.tmp 3))), .mk (some 17) none (.p (.bin .sub .none (.tmp 16) (.lit (.int IntKind.i64 1)))), .mk (some 3) none (.p (.move (.tmp 17)))])))
def c85 : SFunc := ⟨22, (.seq (.ops [.mk (some 2) none (.p (.move (.lit .nils)))])
  (.seq (.ops [.mk (some 4) none (.p (.move (.tmp 0))), .mk (some 5) none (.p (.lenS (.tmp 4))), .mk (some 3) none (.p (.move (.tmp 5)))])
  (.seq (.block 0 (.loop c85_l0))
  (.seq (.ops [.mk (some 18) none (.p (.move (.tmp 0))), .mk (some 19) none (.p (.move (.tmp 3))), .mk (some 20) none (.p (.move (.tmp 3))), .mk (some 21) none (.p (.sliceS 1 (.tmp 18) none (some (.tmp 19)) (some (.tmp 20)))), .mk (some 2) none (.p (.move (.tmp 21)))])
  .ret)))), [.tmp 2]⟩
theorem code85 (own : OwnT) (mode : FuncId → Nat) : (slimPrg Tryd.prog own mode).code 85 = some c85 := by kernel_rfl
-- slices.Clone[[]int,int]
def c86 : SFunc := ⟨8, (.seq (.ops [.mk (some 2) none (.p (.move (.lit .nils)))])
  (.seq (.seq (.ops [.mk (some 3) none (.p (.move (.tmp 0))), .mk (some 4) none (.p (.bin .eql .slc (.tmp 3) (.lit .nils)))])
  (.cond (.tmp 4)
  (.seq (.ops [.mk (some 2) none (.p (.move (.lit .nils)))])
  .ret)
  .skip))
  (.seq (.ops [.mk (some 5) none (.a (.buildS [] 0 [])), .mk (some 6) none (.p (.move (.tmp 0))), .mk (some 7) none (.w (.append 3 1 8 (.tmp 5) (.tmp 6))), .mk (some 2) none (.p (.move (.tmp 7)))])
  .ret))), [.tmp 2]⟩
theorem code86 (own : OwnT) (mode : FuncId → Nat) : (slimPrg Tryd.prog own mode).code 86 = some c86 := by kernel_rfl
-- strings.TrimPrefix
def c87 : SFunc := ⟨8, (.seq (.ops [.mk (some 4) none (.p (.move (.lit (.str []))))])
  (.seq (.ops [.mk (some 5) none (.p (.move (.tmp 0))), .mk (some 6) none (.p (.move (.tmp 1))), .mk (some 7) none (.call (.lit (.func 100 [])) [.tmp 5, .tmp 6]), .mk (some 4) none (.p (.move (.tmp 7)))])
  .ret)), [.tmp 4]⟩
theorem code87 (own : OwnT) (mode : FuncId → Nat) : (slimPrg Tryd.prog own mode).code 87 = some c87 := by kernel_rfl
-- thunk/big.plus
def c88_l0 : SCode :=
  (.seq (.ops [.mk (some 16) none (.p (.bin .lss .none (.tmp 15) (.tmp 14)))])
  (.seq (.cond (.tmp 16)
  .skip
  (.exit 0))
  (.seq (.block 1 (.seq (.ops [.mk (some 17) none (.p (.move (.tmp 15))), .mk (some 7) none (.p (.move (.tmp 17)))])
  (.seq (.ops [.mk (some 18) none (.p (.move (.tmp 0))), .mk (some 19) none (.p (.move (.tmp 7))), .mk (some 20) none (.call (.lit (.func 84 [])) [.tmp 18, .tmp 19]), .mk (some 21) none (.p (.move (.tmp 1))), .mk (some 22) none (.p (.move (.tmp 7))), .mk (some 23) none (.call (.lit (.func 84 [])) [.tmp 21, .tmp 22]), .mk (some 24) none (.p (.bin .add .none (.tmp 20) (.tmp 23))), .mk (some 25) none (.p (.move (.tmp 6))), .mk (some 26) none (.p (.bin .add .none (.tmp 24) (.tmp 25))), .mk (some 8) none (.p (.move (.tmp 26)))])
  (.seq (.ops [.mk (some 27) none (.p (.move (.tmp 5))), .mk (some 28) none (.p (.move (.tmp 8))), .mk (some 29) none (.p (.bin .rem .none (.tmp 28) (.lit (.int IntKind.i64 1000000000)))), .mk (some 30) none (.a (.buildS [.int IntKind.i64 0] 1 [(0, 1, .tmp 29)])), .mk (some 31) none (.w (.append 3 1 8 (.tmp 27) (.tmp 30))), .mk (some 5) none (.p (.move (.tmp 31)))])
  (.ops [.mk (some 32) none (.p (.move (.tmp 8))), .mk (some 33) none (.p (.bin .quo .none (.tmp 32) (.lit (.int IntKind.i64 1000000000)))), .mk (some 6) none (.p (.move (.tmp 33)))])))))
  (.ops [.mk (some 34) none (.p (.bin .add .none (.tmp 15) (.lit (.int IntKind.i64 1)))), .mk (some 15) none (.p (.move (.tmp 34)))]))))
def c88 : SFunc := ⟨37, (.seq (.ops [.mk (some 4) none (.p (.move (.lit .nils)))])
  (.seq (.ops [.mk (some 5) none (.p (.move (.lit .nils)))])
  (.seq (.ops [.mk (some 6) none (.p (.move (.lit (.int IntKind.i64 0))))])
  (.seq (.seq (.ops [.mk (some 9) none (.p (.move (.tmp 0))), .mk (some 10) none (.p (.lenS (.tmp 9))), .mk (some 11) none (.p (.move (.tmp 1))), .mk (some 12) none (.p (.lenS (.tmp 11))), .mk (some 13) none (.p (.max2 (.tmp 10) (.tmp 12))), .mk (some 14) none (.p (.bin .add .none (.tmp 13) (.lit (.int IntKind.i64 1)))), .mk (some 15) none (.p (.move (.lit (.int IntKind.i64 0))))])
  (.block 0 (.loop c88_l0)))
  (.seq (.ops [.mk (some 35) none (.p (.move (.tmp 5))), .mk (some 36) none (.call (.lit (.func 85 [])) [.tmp 35]), .mk (some 4) none (.p (.move (.tmp 36)))])
  .ret))))), [.tmp 4]⟩
theorem code88 (own : OwnT) (mode : FuncId → Nat) : (slimPrg Tryd.prog own mode).code 88 = some c88 := by kernel_rfl
-- thunk/big.compare
def c89_l0 : SCode :=
  (.seq (.seq (.ops [.mk (some 20) none (.p (.move (.tmp 5))), .mk (some 21) none (.p (.bin .geq .none (.tmp 20) (.lit (.int IntKind.i64 0))))])
  (.cond (.tmp 21)
  .skip
  (.exit 0)))
  (.seq (.block 1 (.seq (.draw [.mk (some 24) none (.p (.move (.tmp 0))), .mk (some 25) none (.p (.move (.tmp 5))), .mk (some 26) none (.p (.iaddr 1 (.tmp 24) (.tmp 25))), .mk (some 27) none (.p (.load1 (.tmp 26))), .mk (some 28) none (.p (.move (.tmp 1))), .mk (some 29) none (.p (.move (.tmp 5))), .mk (some 30) none (.p (.iaddr 1 (.tmp 28) (.tmp 29))), .mk (some 31) none (.p (.load1 (.tmp 30))), .mk (some 32) none (.p (.bin .neq .none (.tmp 27) (.tmp 31)))] [])
  (.cond (.tmp 32)
  (.seq (.draw [.mk (some 33) none (.p (.move (.tmp 0))), .mk (some 34) none (.p (.move (.tmp 5))), .mk (some 35) none (.p (.iaddr 1 (.tmp 33) (.tmp 34))), .mk (some 36) none (.p (.load1 (.tmp 35))), .mk (some 37) none (.p (.move (.tmp 1))), .mk (some 38) none (.p (.move (.tmp 5))), .mk (some 39) none (.p (.iaddr 1 (.tmp 37) (.tmp 38))), .mk (some 40) none (.p (.load1 (.tmp 39))), .mk (some 41) none (.p (.bin .sub .none (.tmp 36) (.tmp 40)))] [(.mk (some 42) none (.call (.lit (.func 101 [])) [.tmp 41]), [], [.mk (some 4) none (.p (.move (.tmp 42)))])])
  .ret)
  .skip)))
  (.ops [.mk (some 22) none (.p (.move (.tmp 5))), .mk (some 23) none (.p (.bin .sub .none (.tmp 22) (.lit (.int IntKind.i64 1)))), .mk (some 5) none (.p (.move (.tmp 23)))])))
def c89 : SFunc := ⟨43, (.seq (.ops [.mk (some 4) none (.p (.move (.lit (.int IntKind.i64 0))))])
  (.seq (.seq (.ops [.mk (some 6) none (.p (.move (.tmp 0))), .mk (some 7) none (.p (.lenS (.tmp 6))), .mk (some 8) none (.p (.move (.tmp 1))), .mk (some 9) none (.p (.lenS (.tmp 8))), .mk (some 10) none (.p (.bin .neq .none (.tmp 7) (.tmp 9)))])
  (.cond (.tmp 10)
  (.seq (.ops [.mk (some 11) none (.p (.move (.tmp 0))), .mk (some 12) none (.p (.lenS (.tmp 11))), .mk (some 13) none (.p (.move (.tmp 1))), .mk (some 14) none (.p (.lenS (.tmp 13))), .mk (some 15) none (.p (.bin .sub .none (.tmp 12) (.tmp 14))), .mk (some 16) none (.call (.lit (.func 101 [])) [.tmp 15]), .mk (some 4) none (.p (.move (.tmp 16)))])
  .ret)
  .skip))
  (.seq (.seq (.ops [.mk (some 17) none (.p (.move (.tmp 0))), .mk (some 18) none (.p (.lenS (.tmp 17))), .mk (some 19) none (.p (.bin .sub .none (.tmp 18) (.lit (.int IntKind.i64 1)))), .mk (some 5) none (.p (.move (.tmp 19)))])
  (.block 0 (.loop c89_l0)))
  (.seq (.ops [.mk (some 4) none (.p (.move (.lit (.int IntKind.i64 0))))])
  .ret)))), [.tmp 4]⟩
theorem code89 (own : OwnT) (mode : FuncId → Nat) : (slimPrg Tryd.prog own mode).code 89 = some c89 := by kernel_rfl
-- thunk/big.less
def c90_l0 : SCode :=
  (.seq (.ops [.mk (some 12) none (.p (.bin .lss .none (.tmp 11) (.tmp 10)))])
  (.seq (.cond (.tmp 12)
  .skip
  (.exit 0))
  (.seq (.block 1 (.seq (.ops [.mk (some 13) none (.p (.move (.tmp 11))), .mk (some 7) none (.p (.move (.tmp 13)))])
  (.seq (.draw [.mk (some 14) none (.p (.move (.tmp 0))), .mk (some 15) none (.p (.move (.tmp 7))), .mk (some 16) none (.p (.iaddr 1 (.tmp 14) (.tmp 15))), .mk (some 17) none (.p (.load1 (.tmp 16))), .mk (some 18) none (.p (.move (.tmp 1))), .mk (some 19) none (.p (.move (.tmp 7))), .mk (some 22) none (.p (.move (.tmp 6)))] [(.mk (some 20) none (.call (.lit (.func 84 [])) [.tmp 18, .tmp 19]), [.mk (some 17) none (.p (.load1 (.tmp 16)))], [.mk (some 21) none (.p (.bin .sub .none (.tmp 17) (.tmp 20))), .mk (some 23) none (.p (.bin .sub .none (.tmp 21) (.tmp 22))), .mk (some 8) none (.p (.move (.tmp 23)))])])
  (.seq (.ops [.mk (some 6) none (.p (.move (.lit (.int IntKind.i64 0))))])
  (.seq (.seq (.ops [.mk (some 24) none (.p (.move (.tmp 8))), .mk (some 25) none (.p (.bin .lss .none (.tmp 24) (.lit (.int IntKind.i64 0))))])
  (.cond (.tmp 25)
  (.ops [.mk (some 26) none (.p (.move (.tmp 8))), .mk (some 27) none (.p (.bin .add .none (.tmp 26) (.lit (.int IntKind.i64 1000000000)))), .mk (some 8) none (.p (.move (.tmp 27))), .mk (some 6) none (.p (.move (.lit (.int IntKind.i64 1))))])
  .skip))
  (.ops [.mk (some 28) none (.p (.move (.tmp 5))), .mk (some 29) none (.p (.move (.tmp 8))), .mk (some 30) none (.a (.buildS [.int IntKind.i64 0] 1 [(0, 1, .tmp 29)])), .mk (some 31) none (.w (.append 3 1 8 (.tmp 28) (.tmp 30))), .mk (some 5) none (.p (.move (.tmp 31)))]))))))
  (.ops [.mk (some 32) none (.p (.bin .add .none (.tmp 11) (.lit (.int IntKind.i64 1)))), .mk (some 11) none (.p (.move (.tmp 32)))]))))
def c90 : SFunc := ⟨35, (.seq (.ops [.mk (some 4) none (.p (.move (.lit .nils)))])
  (.seq (.ops [.mk (some 5) none (.p (.move (.lit .nils)))])
  (.seq (.ops [.mk (some 6) none (.p (.move (.lit (.int IntKind.i64 0))))])
  (.seq (.seq (.ops [.mk (some 9) none (.p (.move (.tmp 0))), .mk (some 10) none (.p (.lenS (.tmp 9))), .mk (some 11) none (.p (.move (.lit (.int IntKind.i64 0))))])
  (.block 0 (.loop c90_l0)))
  (.seq (.ops [.mk (some 33) none (.p (.move (.tmp 5))), .mk (some 34) none (.call (.lit (.func 85 [])) [.tmp 33]), .mk (some 4) none (.p (.move (.tmp 34)))])
  .ret))))), [.tmp 4]⟩
theorem code90 (own : OwnT) (mode : FuncId → Nat) : (slimPrg Tryd.prog own mode).code 90 = some c90 := by kernel_rfl
-- strings.CutPrefix
def c97 : SFunc := ⟨11, (.seq (.ops [.mk (some 4) none (.p (.move (.lit (.str [])))), .mk (some 5) none (.p (.move (.lit (.bool false))))])
  (.seq (.ops [.mk (some 6) none (.p (.move (.tmp 0))), .mk (some 7) none (.p (.move (.tmp 1))), .mk (some 8) none (.call (.lit (.func 104 [])) [.tmp 6, .tmp 7]), .mk (some 9) none (.p (.extract (.tmp 8) 0)), .mk (some 10) none (.p (.extract (.tmp 8) 1)), .mk (some 4) none (.p (.move (.tmp 9))), .mk (some 5) none (.p (.move (.tmp 10)))])
  .ret)), [.tmp 4, .tmp 5]⟩
theorem code97 (own : OwnT) (mode : FuncId → Nat) : (slimPrg Tryd.prog own mode).code 97 = some c97 := by kernel_rfl
-- internal/stringslite.TrimPrefix
def c100 : SFunc := ⟨13, (.seq (.ops [.mk (some 4) none (.p (.move (.lit (.str []))))])
  (.seq (.seq (.ops [.mk (some 5) none (.p (.move (.tmp 0))), .mk (some 6) none (.p (.move (.tmp 1))), .mk (some 7) none (.call (.lit (.func 109 [])) [.tmp 5, .tmp 6])])
  (.cond (.tmp 7)
  (.seq (.ops [.mk (some 8) none (.p (.move (.tmp 0))), .mk (some 9) none (.p (.move (.tmp 1))), .mk (some 10) none (.p (.lenT (.tmp 9))), .mk (some 11) none (.p (.sliceT (.tmp 8) (some (.tmp 10)) none)), .mk (some 4) none (.p (.move (.tmp 11)))])
  .ret)
  .skip))
  (.seq (.ops [.mk (some 12) none (.p (.move (.tmp 0))), .mk (some 4) none (.p (.move (.tmp 12)))])
  .ret))), [.tmp 4]⟩
theorem code100 (own : OwnT) (mode : FuncId → Nat) : (slimPrg Tryd.prog own mode).code 100 = some c100 := by kernel_rfl
-- thunk/big.sign
def c101 : SFunc := ⟨9, (.seq (.ops [.mk (some 2) none (.p (.move (.lit (.int IntKind.i64 0))))])
  (.seq (.block 0 (.seq (.ops [.mk (some 4) none (.p (.move (.tmp 0))), .mk (some 5) none (.p (.bin .lss .none (.tmp 4) (.lit (.int IntKind.i64 0)))), .mk (some 3) none (.p (.move (.tmp 5)))])
  (.cond (.tmp 3)
  (.seq (.ops [.mk (some 2) none (.p (.move (.lit (.int IntKind.i64 (-1)))))])
  .ret)
  (.seq (.ops [.mk (some 7) none (.p (.move (.tmp 0))), .mk (some 8) none (.p (.bin .gtr .none (.tmp 7) (.lit (.int IntKind.i64 0)))), .mk (some 6) none (.p (.move (.tmp 8)))])
  (.cond (.tmp 6)
  (.seq (.ops [.mk (some 2) none (.p (.move (.lit (.int IntKind.i64 1))))])
  .ret)
  .skip)))))
  (.seq (.ops [.mk (some 2) none (.p (.move (.lit (.int IntKind.i64 0))))])
  .ret))), [.tmp 2]⟩
theorem code101 (own : OwnT) (mode : FuncId → Nat) : (slimPrg Tryd.prog own mode).code 101 = some c101 := by kernel_rfl
-- thunk/thunkref1.sign
def c103 : SFunc := ⟨7, (.seq (.ops [.mk (some 2) none (.p (.move (.lit (.int IntKind.i64 0))))])
  (.seq (.seq (.ops [.mk (some 3) none (.p (.move (.tmp 0))), .mk (some 4) none (.p (.bin .lss .none (.tmp 3) (.lit (.int IntKind.i64 0))))])
  (.cond (.tmp 4)
  (.seq (.ops [.mk (some 2) none (.p (.move (.lit (.int IntKind.i64 (-1)))))])
  .ret)
  .skip))
  (.seq (.seq (.ops [.mk (some 5) none (.p (.move (.tmp 0))), .mk (some 6) none (.p (.bin .gtr .none (.tmp 5) (.lit (.int IntKind.i64 0))))])
  (.cond (.tmp 6)
  (.seq (.ops [.mk (some 2) none (.p (.move (.lit (.int IntKind.i64 1))))])
  .ret)
  .skip))
  (.seq (.ops [.mk (some 2) none (.p (.move (.lit (.int IntKind.i64 0))))])
  .ret)))), [.tmp 2]⟩
theorem code103 (own : OwnT) (mode : FuncId → Nat) : (slimPrg Tryd.prog own mode).code 103 = some c103 := by kernel_rfl
-- internal/stringslite.CutPrefix
def c104 : SFunc := ⟨15, (.seq (.ops [.mk (some 4) none (.p (.move (.lit (.str [])))), .mk (some 5) none (.p (.move (.lit (.bool false))))])
  (.seq (.seq (.ops [.mk (some 6) none (.p (.move (.tmp 0))), .mk (some 7) none (.p (.move (.tmp 1))), .mk (some 8) none (.call (.lit (.func 109 [])) [.tmp 6, .tmp 7]), .mk (some 9) none (.p (.not (.tmp 8)))])
  (.cond (.tmp 9)
  (.seq (.ops [.mk (some 10) none (.p (.move (.tmp 0))), .mk (some 4) none (.p (.move (.tmp 10))), .mk (some 5) none (.p (.move (.lit (.bool false))))])
  .ret)
  .skip))
  (.seq (.ops [.mk (some 11) none (.p (.move (.tmp 0))), .mk (some 12) none (.p (.move (.tmp 1))), .mk (some 13) none (.p (.lenT (.tmp 12))), .mk (some 14) none (.p (.sliceT (.tmp 11) (some (.tmp 13)) none)), .mk (some 4) none (.p (.move (.tmp 14))), .mk (some 5) none (.p (.move (.lit (.bool true))))])
  .ret))), [.tmp 4, .tmp 5]⟩
theorem code104 (own : OwnT) (mode : FuncId → Nat) : (slimPrg Tryd.prog own mode).code 104 = some c104 := by kernel_rfl
-- internal/stringslite.HasPrefix
def c109 : SFunc := ⟨18, (.seq (.ops [.mk (some 4) none (.p (.move (.lit (.bool false))))])
  (.seq (.ops [.mk (some 5) none (.p (.move (.tmp 0))), .mk (some 6) none (.p (.lenT (.tmp 5))), .mk (some 7) none (.p (.move (.tmp 1))), .mk (some 8) none (.p (.lenT (.tmp 7))), .mk (some 9) none (.p (.bin .geq .none (.tmp 6) (.tmp 8))), .mk (some 10) none (.p (.move (.tmp 9))), .mk (some 11) (some (10, true)) (.p (.move (.tmp 0))), .mk (some 12) (some (10, true)) (.p (.move (.tmp 1))), .mk (some 13) (some (10, true)) (.p (.lenT (.tmp 12))), .mk (some 14) (some (10, true)) (.p (.sliceT (.tmp 11) none (some (.tmp 13)))), .mk (some 15) (some (10, true)) (.p (.move (.tmp 1))), .mk (some 16) (some (10, true)) (.p (.bin .eql .none (.tmp 14) (.tmp 15))), .mk (some 17) none (.p (.pick (.tmp 10) (.tmp 16) (.lit (.bool false)))), .mk (some 4) none (.p (.move (.tmp 17)))])
  .ret)), [.tmp 4]⟩
theorem code109 (own : OwnT) (mode : FuncId → Nat) : (slimPrg Tryd.prog own mode).code 109 = some c109 := by kernel_rfl
end Go.Lite
