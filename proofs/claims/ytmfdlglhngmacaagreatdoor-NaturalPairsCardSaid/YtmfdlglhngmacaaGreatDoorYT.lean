/-
  Several texts in one: CodeR, TBRefA, TBRefB, TBRefC, TBRefMul, TBRefSum, TBRefQuo.
-/
import Derived.Test.YtmfdlglhngmacaaGreatDoorYC
import Derived.Test.YtmfdlglhngmacaaGreatDoorProg
import Derived.Test.YtmfdlglhngmacaaGreatDoorYD
import Derived.Test.YtmfdlglhngmacaaGreatDoorYG
import Derived.Test.YtmfdlglhngmacaaGreatDoorYF
set_option linter.unusedSimpArgs false
set_option linter.unusedVariables false
set_option linter.defProp false
set_option maxRecDepth 100000
/-
  The slimmed code of the functions, printed by program, and that it is what is computed from the program.
-/
namespace Go.Lite
open Go Go.Proofs
-- thunk/thunkref7.Norm
def c13:SFunc:=⟨53,(.seq (.ops [oA 3 (.box 28 (.tmp 0)),oA 6 (.newc 34 [.int .i64 0,.str [],.int .i64 0]),oI 7 0,oI 8 0])
 (.seq (.ops [oM 12 2,oP 13 (.build [.int .i64 0,.int .i64 0,.int .i64 0,.int .i64 0,.str [],.int .i64 0] [(2,1,.tmp 12)]),oA 14 (.box 83 (.tmp 13)),oM 9 14])
 (.seq (.draw [oM 15 9,oN 16 4 3,oM 17 1,oA 10 (.newc 88 [.int .i64 0,.str [],.nilp,.nilp,.int .i64 0,.str [],.nils,.nils,.nils,.nils])] [(oC 18 30 ([.tmp 17]),[oN 16 4 3],[oP 19 (.build [.str [],.nilp] [(0,1,.lit (.str [105,110,112,117,116])),(1,1,.tmp 18)]),oA 20 (.buildS [.str [],.nilp] 1 [(0,2,.tmp 19)])]),(oC 21 29 ([.tmp 15,.tmp 16,.tmp 20]),[],[]),(oS 10 10 21,[],[])])
 (.seq (.ops [oM 22 9,oN 23 10 10,oC 24 31 ([.tmp 22,.lit (.str []),.tmp 23]),oM 11 24])
 (.seq (.seq (.ops [oM 25 9,oK 26 25,oF 27 3 26,oF 28 0 27,oL 29 28,oJ 30 .neq 29 0])
 (.cond (.tmp 30)
 (.seq (.draw [oM 31 9,oK 32 31,oF 33 3 32,oN 34 3 33,oM 35 9,oK 36 35,oF 37 0 36,oL 38 37,oM 39 9,oK 40 39,oF 41 1 40,oL 42 41] [(oS 3 6 34,[oL 38 37,oL 42 41],[oM 7 38,oM 8 42])])
 .ret)
 .skip))
 (.seq (.draw [oM 43 11,oP 44 (.build [.int .i64 0,.str [],.int .i64 0] [(0,1,.lit (.int .i64 1)),(1,1,.tmp 43)]),oM 45 9,oK 46 45,oF 47 0 46,oL 48 47,oM 49 9,oK 50 49,oF 51 1 50,oL 52 51] [(oS 3 6 44,[oL 48 47,oL 52 51],[oM 7 48,oM 8 52])])
 .ret)))))),[.celln 6 3,.tmp 7,.tmp 8]⟩
theorem aEo (own:OwnT) (mode:FuncId→Nat):(qH Tryz.prog own mode).code 13=some c13:=by kernel_rfl
-- (*thunk/thunkref7.Namer).Norm
def rY:SCode:=
 (.seq (.seq (.ops [oM 60 9,oF 61 3 4,oL 62 61,oE 63 62,oB 64 .lss 60 63])
 (.cond (.tmp 64)
 .skip
 (.exit 1)))
 (.seq (.block 2 (.ops [oM 67 8,oF 68 3 4,oL 69 68,oM 70 9,oP 71 (.iaddr 4 (.tmp 69) (.tmp 70)),oN 72 4 71,oM 73 2,oC 74 57 ([.tmp 72,.tmp 73]),oA 75 (.buildS [.nilp] 1 [(0,1,.tmp 74)]),oW 76 (.append 84 1 8 (.tmp 67) (.tmp 75)),oM 8 76]))
 (.ops [oM 65 9,oJ 66 .add 65 1,oM 9 66])))
def c29:SFunc:=⟨126,(.seq (.ops [oA 4 (.box 28 (.tmp 1)),oA 6 (.newc 88 [.int .i64 0,.str [],.nilp,.nilp,.int .i64 0,.str [],.nils,.nils,.nils,.nils])])
 (.seq (.seq (.ops [oM 11 0,oK 12 11,oF 13 3 12,oF 14 0 13,oL 15 14,oJ 16 .neq 15 0])
 (.cond (.tmp 16)
 (.seq (.ops [oP 17 (.build [.int .i64 0,.str [],.nilp,.nilp,.int .i64 0,.str [],.nils,.nils,.nils,.nils] []),oS 10 6 17])
 .ret)
 .skip))
 (.seq (.ops [oM 18 0,oK 19 18,oF 20 0 19,oL 21 20,oJ 22 .add 21 1,oK 23 18,oF 24 0 23,oS 1 24 22])
 (.seq (.seq (.draw [oM 25 0,oK 26 25,oF 27 0 26,oL 28 27,oM 29 0,oK 30 29,oF 31 2 30,oL 32 31,oB 33 .gtr 28 32] [])
 (.cond (.tmp 33)
 (.seq (.ops [oM 34 0,oC 35 54 ([.tmp 34,.lit (.int .i64 6),.lit (.str [])]),oS 10 6 35])
 .ret)
 .skip))
 (.seq (.seq (.ops [oF 36 0 4,oL 37 36])
 (.block 0 (.seq (.ops [oJ 39 .eql 37 5,oM 38 39])
 (.cond (.tmp 38)
 (.seq (.ops [oM 40 0,oM 41 2,oF 42 1 4,oL 43 42,oC 44 56 ([.tmp 41,.tmp 43]),oC 45 55 ([.tmp 40,.tmp 44]),oS 10 6 45])
 .ret)
 (.seq (.ops [oJ 47 .eql 37 6,oM 46 47])
 (.cond (.tmp 46)
 (.seq (.ops [oN 48 4 4,oM 49 2,oP 50 (.build [.int .i64 0,.str [],.nilp,.nilp,.int .i64 0,.str [],.nils,.nils,.nils,.nils] [(0,1,.lit (.int .i64 6)),(4,4,.tmp 48),(8,1,.tmp 49)]),oS 10 6 50])
 .ret)
 (.seq (.ops [oJ 52 .eql 37 7,oM 51 52])
 (.cond (.tmp 51)
 (.seq (.ops [oM 53 0,oF 54 3 4,oL 55 54,oP 56 (.iaddr 4 (.tmp 55) (.lit (.int .i64 0))),oN 57 4 56,oM 58 2,oC 59 29 ([.tmp 53,.tmp 57,.tmp 58]),oA 7 (.newc 88 [.int .i64 0,.str [],.nilp,.nilp,.int .i64 0,.str [],.nils,.nils,.nils,.nils]),oS 10 7 59])
 (.seq (.ops [oP 8 (.move (.lit .nils))])
 (.seq (.seq (.ops [oI 9 1])
 (.block 1 (.loop rY)))
 (.seq (.ops [oM 77 0,oN 78 10 7,oM 79 8,oC 80 58 ([.tmp 77,.tmp 78,.tmp 79]),oS 10 6 80])
 .ret))))
 (.seq (.ops [oJ 82 .eql 37 8,oM 81 82])
 (.cond (.tmp 81)
 (.seq (.ops [oM 83 0,oF 84 3 4,oL 85 84,oP 86 (.iaddr 4 (.tmp 85) (.lit (.int .i64 0))),oN 87 4 86,oM 88 2,oC 89 29 ([.tmp 83,.tmp 87,.tmp 88]),oA 10 (.newc 88 [.int .i64 0,.str [],.nilp,.nilp,.int .i64 0,.str [],.nils,.nils,.nils,.nils]),oS 10 10 89])
 (.seq (.seq (.ops [oF 90 0 10,oL 91 90,oJ 92 .eql 91 2,oM 93 92,oG 94 93 true (.faddr 1 (.tmp 10)),oG 95 93 true (.load1 (.tmp 94)),oG 96 93 true (.bin .eql .none (.tmp 95) (.lit (.str [35,102]))),oP 97 (.pick (.tmp 93) (.tmp 96) (.lit (.bool false)))])
 (.cond (.tmp 97)
 (.seq (.ops [oM 98 0,oF 99 3 4,oL 100 99,oP 101 (.iaddr 4 (.tmp 100) (.lit (.int .i64 2))),oN 102 4 101,oM 103 2,oC 104 29 ([.tmp 98,.tmp 102,.tmp 103]),oS 10 6 104])
 .ret)
 .skip))
 (.seq (.ops [oM 105 0,oF 106 3 4,oL 107 106,oP 108 (.iaddr 4 (.tmp 107) (.lit (.int .i64 1))),oN 109 4 108,oM 110 2,oC 111 29 ([.tmp 105,.tmp 109,.tmp 110]),oS 10 6 111])
 .ret)))
 (.seq (.ops [oJ 113 .eql 37 9,oM 112 113])
 (.cond (.tmp 112)
 (.seq (.ops [oM 114 0,oN 115 4 4,oM 116 2,oC 117 59 ([.tmp 114,.tmp 115,.tmp 116]),oS 10 6 117])
 .ret)
 (.seq (.ops [oJ 119 .eql 37 10,oM 118 119])
 (.cond (.tmp 118)
 (.seq (.ops [oM 120 0,oN 121 4 4,oM 122 2,oC 123 60 ([.tmp 120,.tmp 121,.tmp 122]),oS 10 6 123])
 .ret)
 .skip))))))))))))))
 (.seq (.ops [oN 124 4 4,oC 125 61 ([.tmp 124]),oS 10 6 125])
 .ret)))))),[.celln 6 10]⟩
theorem bR (own:OwnT) (mode:FuncId→Nat):(qH Tryz.prog own mode).code 29=some c29:=by kernel_rfl
-- thunk/thunkref10.list
def a7n:SCode:=
 (.seq (.seq (.ops [oM 11 4,oJ 12 .gtr 11 0])
 (.cond (.tmp 12)
 .skip
 (.exit 0)))
 (.seq (.block 1 (.seq (.ops [oM 15 0,oM 16 4,oJ 17 .sub 16 1,oP 18 (.iaddr 1 (.tmp 15) (.tmp 17)),oL 19 18,oP 20 (.build [.int .i64 0,.str [],.nilp,.nilp,.int .i64 0,.str [],.nils,.nils,.nils,.nils] [(0,1,.lit (.int .i64 1)),(1,1,.tmp 19)]),oP 21 (.build [.int .i64 0,.int .i64 0,.str [],.nils,.nils,.nils,.int .i64 0,.str [],.nilp,.nilp,.int .i64 0,.str [],.nils,.nils,.nils,.nils] [(0,1,.lit (.int .i64 2)),(6,10,.tmp 20)]),oA 22 (.box 126 (.tmp 21)),oM 5 22])
 (.ops [oM 23 5,oM 24 3,oP 25 (.build [.int .i64 0,.str [],.nilp,.nilp,.int .i64 0,.str [],.nils,.nils,.nils,.nils] [(0,1,.lit (.int .i64 5)),(2,1,.tmp 23),(3,1,.tmp 24)]),oP 26 (.build [.int .i64 0,.int .i64 0,.str [],.nils,.nils,.nils,.int .i64 0,.str [],.nilp,.nilp,.int .i64 0,.str [],.nils,.nils,.nils,.nils] [(0,1,.lit (.int .i64 2)),(6,10,.tmp 25)]),oA 27 (.box 126 (.tmp 26)),oM 3 27])))
 (.ops [oM 13 4,oJ 14 .sub 13 1,oM 4 14])))
def c30:SFunc:=⟨29,(.seq (.ops [oP 2 (.move (.lit .nilp))])
 (.seq (.ops [oP 6 (.build [.int .i64 0,.str [],.nilp,.nilp,.int .i64 0,.str [],.nils,.nils,.nils,.nils] [(0,1,.lit (.int .i64 3)),(1,1,.lit (.str [40,41]))]),oP 7 (.build [.int .i64 0,.int .i64 0,.str [],.nils,.nils,.nils,.int .i64 0,.str [],.nilp,.nilp,.int .i64 0,.str [],.nils,.nils,.nils,.nils] [(0,1,.lit (.int .i64 2)),(6,10,.tmp 6)]),oA 8 (.box 126 (.tmp 7)),oM 3 8])
 (.seq (.seq (.ops [oM 9 0,oE 10 9,oM 4 10])
 (.block 0 (.loop a7n)))
 (.seq (.ops [oM 28 3,oM 2 28])
 .ret)))),[.tmp 2]⟩
theorem aEb (own:OwnT) (mode:FuncId→Nat):(qH Tryz.prog own mode).code 30=some c30:=by kernel_rfl
-- (*thunk/thunkref10.machine).print
def bK:SCode:=
 (.seq (.seq (.ops [oM 32 0,oK 33 32,oF 34 3 33,oF 35 0 34,oL 36 35,oJ 37 .eql 36 0])
 (.cond (.tmp 37)
 .skip
 (.exit 1)))
 (.block 2 (.seq (.ops [oM 38 0,oM 39 1,oM 40 0,oF 41 2 5,oL 42 41,oC 43 55 ([.tmp 40,.tmp 42]),oC 44 31 ([.tmp 38,.tmp 39,.tmp 43]),oM 1 44])
 (.seq (.seq (.ops [oM 45 0,oK 46 45,oF 47 3 46,oF 48 0 47,oL 49 48,oJ 50 .neq 49 0])
 (.cond (.tmp 50)
 (.seq (.ops [oP 6 (.move (.lit (.str [])))])
 .ret)
 .skip))
 (.seq (.ops [oM 51 0,oF 52 3 5,oL 53 52,oC 54 55 ([.tmp 51,.tmp 53]),oS 10 5 54])
 (.seq (.seq (.ops [oM 55 0,oK 56 55,oF 57 3 56,oF 58 0 57,oL 59 58,oJ 60 .neq 59 0])
 (.cond (.tmp 60)
 (.seq (.ops [oP 6 (.move (.lit (.str [])))])
 .ret)
 .skip))
 (.seq (.seq (.ops [oF 61 0 5,oL 62 61,oJ 63 .neq 62 5])
 (.cond (.tmp 63)
 (.exit 1)
 .skip))
 (.seq (.ops [oM 64 0,oM 65 1,oC 66 63 ([.tmp 64,.tmp 65,.lit (.str [32])]),oM 1 66])
 (.seq (.ops [oM 67 0,oK 68 67,oF 69 3 68,oF 70 0 69,oL 71 70,oJ 72 .neq 71 0])
 (.cond (.tmp 72)
 (.seq (.ops [oP 6 (.move (.lit (.str [])))])
 .ret)
 .skip))))))))))
def c31:SFunc:=⟨91,(.seq (.ops [oA 5 (.box 88 (.tmp 2)),oP 6 (.move (.lit (.str [])))])
 (.seq (.block 0 (.seq (.ops [oM 8 0,oK 9 8,oF 10 3 9,oF 11 0 10,oL 12 11,oJ 13 .neq 12 0,oM 7 13])
 (.cond (.tmp 7)
 (.seq (.ops [oP 6 (.move (.lit (.str [])))])
 .ret)
 (.seq (.ops [oN 15 10 5,oC 16 62 ([.tmp 15]),oM 14 16])
 (.cond (.tmp 14)
 (.seq (.ops [oM 17 0,oM 18 1,oF 19 1 5,oL 20 19,oC 21 63 ([.tmp 17,.tmp 18,.tmp 20]),oM 6 21])
 .ret)
 (.seq (.ops [oF 23 0 5,oL 24 23,oJ 25 .eql 24 6,oM 22 25])
 (.cond (.tmp 22)
 (.seq (.ops [oM 26 0,oM 27 1,oC 28 63 ([.tmp 26,.tmp 27,.lit (.str [35,60,102,117,110,99,116,105,111,110,62])]),oM 6 28])
 .ret)
 .skip)))))))
 (.seq (.ops [oM 29 0,oM 30 1,oC 31 63 ([.tmp 29,.tmp 30,.lit (.str [40])]),oM 1 31])
 (.seq (.block 1 (.loop bK))
 (.seq (.seq (.ops [oM 73 0,oK 74 73,oF 75 3 74,oF 76 0 75,oL 77 76,oJ 78 .neq 77 0])
 (.cond (.tmp 78)
 (.seq (.ops [oP 6 (.move (.lit (.str [])))])
 .ret)
 .skip))
 (.seq (.seq (.ops [oF 79 0 5,oL 80 79,oJ 81 .neq 80 3])
 (.cond (.tmp 81)
 (.draw [oM 82 0,oM 83 0,oM 84 1,oN 86 10 5] [(oC 85 63 ([.tmp 83,.tmp 84,.lit (.str [32,46,32])]),[oN 86 10 5],[]),(oC 87 31 ([.tmp 82,.tmp 85,.tmp 86]),[],[oM 1 87])])
 .skip))
 (.seq (.ops [oM 88 0,oM 89 1,oC 90 63 ([.tmp 88,.tmp 89,.lit (.str [41])]),oM 6 90])
 .ret))))))),[.tmp 6]⟩
theorem a4R (own:OwnT) (mode:FuncId→Nat):(qH Tryz.prog own mode).code 31=some c31:=by kernel_rfl
-- (*thunk/thunkref10.machine).stop
def c54:SFunc:=⟨20,(.seq (.ops [oA 6 (.newc 88 [.int .i64 0,.str [],.nilp,.nilp,.int .i64 0,.str [],.nils,.nils,.nils,.nils])])
 (.seq (.seq (.ops [oM 7 0,oK 8 7,oF 9 3 8,oF 10 0 9,oL 11 10,oJ 12 .eql 11 0])
 (.cond (.tmp 12)
 (.ops [oM 13 0,oM 14 1,oM 15 2,oP 16 (.build [.int .i64 0,.str [],.int .i64 0] [(0,1,.tmp 14),(1,1,.tmp 15)]),oK 17 13,oF 18 3 17,oS 3 18 16])
 .skip))
 (.seq (.ops [oP 19 (.build [.int .i64 0,.str [],.nilp,.nilp,.int .i64 0,.str [],.nils,.nils,.nils,.nils] []),oS 10 6 19])
 .ret))),[.celln 6 10]⟩
theorem aAP (own:OwnT) (mode:FuncId→Nat):(qH Tryz.prog own mode).code 54=some c54:=by kernel_rfl
-- (*thunk/thunkref10.machine).force
def c55:SFunc:=⟨57,(.seq (.ops [oA 4 (.newc 88 [.int .i64 0,.str [],.nilp,.nilp,.int .i64 0,.str [],.nils,.nils,.nils,.nils])])
 (.seq (.seq (.ops [oM 6 1,oK 7 6,oF 8 0 7,oL 9 8,oJ 10 .eql 9 2])
 (.cond (.tmp 10)
 (.seq (.ops [oM 11 1,oK 12 11,oF 13 6 12,oN 14 10 13,oS 10 4 14])
 .ret)
 .skip))
 (.seq (.seq (.ops [oM 15 1,oK 16 15,oF 17 0 16,oL 18 17,oJ 19 .eql 18 1])
 (.cond (.tmp 19)
 (.seq (.ops [oM 20 0,oC 21 54 ([.tmp 20,.lit (.int .i64 3),.lit (.str [])]),oS 10 4 21])
 .ret)
 .skip))
 (.seq (.ops [oM 22 0,oK 23 22,oF 24 1 23,oL 25 24,oJ 26 .add 25 1,oK 27 22,oF 28 1 27,oS 1 28 26])
 (.seq (.ops [oM 29 1,oK 30 29,oF 31 0 30,.mk none none (.w (.store 1 (.tmp 31) (.lit (.int .i64 1))))])
 (.seq (.draw [oM 32 0,oM 33 1,oK 34 33,oF 35 1 34,oN 36 4 35,oM 37 1,oK 38 37,oF 39 5 38,oL 40 39,oA 5 (.newc 88 [.int .i64 0,.str [],.nilp,.nilp,.int .i64 0,.str [],.nils,.nils,.nils,.nils])] [(oC 41 29 ([.tmp 32,.tmp 36,.tmp 40]),[],[]),(oS 10 5 41,[],[])])
 (.seq (.seq (.ops [oM 42 0,oK 43 42,oF 44 3 43,oF 45 0 44,oL 46 45,oJ 47 .neq 46 0])
 (.cond (.tmp 47)
 (.seq (.ops [oN 48 10 5,oS 10 4 48])
 .ret)
 .skip))
 (.seq (.draw [oM 49 1,oM 50 1,oN 51 10 5,oK 52 49,oF 53 0 52] [(.mk none none (.w (.store 1 (.tmp 53) (.lit (.int .i64 2)))),[oN 51 10 5],[oK 54 50,oF 55 6 54]),(oS 10 55 51,[],[])])
 (.seq (.ops [oN 56 10 5,oS 10 4 56])
 .ret))))))))),[.celln 4 10]⟩
theorem aDA (own:OwnT) (mode:FuncId→Nat):(qH Tryz.prog own mode).code 55=some c55:=by kernel_rfl
-- thunk/thunkref10.look
def a1F:SCode:=
 (.seq (.seq (.ops [oM 8 5,oJ 9 .gtr 8 0])
 (.cond (.tmp 9)
 .skip
 (.exit 0)))
 (.seq (.block 1 (.seq (.ops [oM 12 0,oM 13 5,oJ 14 .sub 13 1,oP 15 (.iaddr 2 (.tmp 12) (.tmp 14)),oF 16 0 15,oL 17 16,oM 18 1,oB 19 .eql 17 18])
 (.cond (.tmp 19)
 (.seq (.ops [oM 20 0,oM 21 5,oJ 22 .sub 21 1,oP 23 (.iaddr 2 (.tmp 20) (.tmp 22)),oF 24 1 23,oL 25 24,oM 4 25])
 .ret)
 .skip)))
 (.ops [oM 10 5,oJ 11 .sub 10 1,oM 5 11])))
def c56:SFunc:=⟨29,(.seq (.ops [oP 4 (.move (.lit .nilp))])
 (.seq (.seq (.ops [oM 6 0,oE 7 6,oM 5 7])
 (.block 0 (.loop a1F)))
 (.seq (.ops [oP 26 (.build [.int .i64 0,.str [],.nilp,.nilp,.int .i64 0,.str [],.nils,.nils,.nils,.nils] [(0,1,.lit (.int .i64 3)),(1,1,.lit (.str [40,41]))]),oP 27 (.build [.int .i64 0,.int .i64 0,.str [],.nils,.nils,.nils,.int .i64 0,.str [],.nilp,.nilp,.int .i64 0,.str [],.nils,.nils,.nils,.nils] [(0,1,.lit (.int .i64 2)),(6,10,.tmp 26)]),oA 28 (.box 126 (.tmp 27)),oM 4 28])
 .ret))),[.tmp 4]⟩
theorem aE7 (own:OwnT) (mode:FuncId→Nat):(qH Tryz.prog own mode).code 56=some c56:=by kernel_rfl
-- thunk/thunkref10.kept
def c57:SFunc:=⟨24,(.seq (.ops [oA 2 (.box 28 (.tmp 0)),oP 4 (.move (.lit .nilp))])
 (.seq (.block 0 (.seq (.ops [oF 6 0 2,oL 7 6,oJ 8 .eql 7 5,oM 5 8])
 (.cond (.tmp 5)
 (.seq (.ops [oM 9 1,oF 10 1 2,oL 11 10,oC 12 56 ([.tmp 9,.tmp 11]),oM 4 12])
 .ret)
 (.seq (.ops [oN 14 4 2,oC 15 43 ([.tmp 14]),oM 13 15])
 (.cond (.tmp 13)
 (.seq (.ops [oN 16 4 2,oC 17 61 ([.tmp 16]),oP 18 (.build [.int .i64 0,.int .i64 0,.str [],.nils,.nils,.nils,.int .i64 0,.str [],.nilp,.nilp,.int .i64 0,.str [],.nils,.nils,.nils,.nils] [(0,1,.lit (.int .i64 2)),(6,10,.tmp 17)]),oA 19 (.box 126 (.tmp 18)),oM 4 19])
 .ret)
 .skip)))))
 (.seq (.ops [oN 20 4 2,oM 21 1,oP 22 (.build [.int .i64 0,.int .i64 0,.str [],.nils,.nils,.nils,.int .i64 0,.str [],.nilp,.nilp,.int .i64 0,.str [],.nils,.nils,.nils,.nils] [(1,4,.tmp 20),(5,1,.tmp 21)]),oA 23 (.box 126 (.tmp 22)),oM 4 23])
 .ret))),[.tmp 4]⟩
theorem aEd (own:OwnT) (mode:FuncId→Nat):(qH Tryz.prog own mode).code 57=some c57:=by kernel_rfl
-- (*thunk/thunkref10.machine).apply
def a4j:SCode:=
 (.seq (.seq (.ops [oM 61 11,oM 62 9,oE 63 62,oB 64 .lss 61 63])
 (.cond (.tmp 64)
 .skip
 (.exit 2)))
 (.seq (.block 3 (.draw [oM 67 10,oF 68 4 4,oF 69 2 68,oL 70 69,oM 71 11,oP 72 (.iaddr 1 (.tmp 70) (.tmp 71)),oL 73 72,oM 74 9,oM 75 11,oP 76 (.iaddr 1 (.tmp 74) (.tmp 75)),oL 77 76,oP 78 (.build [.str [],.nilp] [(0,1,.tmp 73),(1,1,.tmp 77)]),oA 79 (.buildS [.str [],.nilp] 1 [(0,2,.tmp 78)])] [(oW 80 (.append 92 2 24 (.tmp 67) (.tmp 79)),[],[oM 10 80])]))
 (.ops [oM 65 11,oJ 66 .add 65 1,oM 11 66])))
def pV:SCode:=
 (.seq (.seq (.ops [oM 12 2,oE 13 12,oJ 14 .gtr 13 0,oM 15 14,oG 16 15 true (.move (.tmp 0)),oG 17 15 true (.nilchk (.tmp 16)),oG 18 15 true (.faddr 3 (.tmp 17)),oG 19 15 true (.faddr 0 (.tmp 18)),oG 20 15 true (.load1 (.tmp 19)),oG 21 15 true (.bin .eql .none (.tmp 20) (.lit (.int .i64 0))),oP 22 (.pick (.tmp 15) (.tmp 21) (.lit (.bool false)))])
 (.cond (.tmp 22)
 .skip
 (.exit 0)))
 (.block 1 (.seq (.seq (.ops [oF 23 0 4,oL 24 23,oJ 25 .neq 24 6])
 (.cond (.tmp 25)
 (.seq (.ops [oM 26 0,oC 27 54 ([.tmp 26,.lit (.int .i64 2),.lit (.str [97,112,112,108,121])]),oS 10 6 27])
 .ret)
 .skip))
 (.seq (.ops [oF 28 4 4,oF 29 2 28,oL 30 29,oE 31 30,oF 32 9 4,oL 33 32,oE 34 33,oB 35 .sub 31 34,oM 7 35])
 (.seq (.ops [oM 36 7,oM 37 2,oE 38 37,oP 39 (.min2 (.tmp 36) (.tmp 38)),oM 8 39])
 (.seq (.draw [oA 40 (.buildS [] 0 []),oF 41 9 4,oL 42 41,oM 44 2,oM 45 8,oP 46 (.sliceS 1 (.tmp 44) none (some (.tmp 45)) none)] [(oW 43 (.append 84 1 8 (.tmp 40) (.tmp 42)),[],[]),(oW 47 (.append 84 1 8 (.tmp 43) (.tmp 46)),[],[oM 9 47])])
 (.seq (.ops [oM 48 2,oM 49 8,oP 50 (.sliceS 1 (.tmp 48) (some (.tmp 49)) none none),oM 2 50])
 (.seq (.seq (.ops [oM 51 8,oM 52 7,oB 53 .lss 51 52])
 (.cond (.tmp 53)
 (.seq (.ops [oM 54 9,oF 55 9 4,oS 1 55 54])
 (.seq (.ops [oN 56 10 4,oS 10 6 56])
 .ret))
 .skip))
 (.seq (.ops [oA 57 (.buildS [] 0 []),oF 58 8 4,oL 59 58,oW 60 (.append 92 2 24 (.tmp 57) (.tmp 59)),oM 10 60])
 (.seq (.seq (.ops [oI 11 0])
 (.block 2 (.loop a4j)))
 (.ops [oM 81 0,oF 82 4 4,oF 83 3 82,oL 84 83,oP 85 (.iaddr 4 (.tmp 84) (.lit (.int .i64 0))),oN 86 4 85,oM 87 10,oC 88 29 ([.tmp 81,.tmp 86,.tmp 87]),oS 10 4 88])))))))))))
def c58:SFunc:=⟨90,(.seq (.ops [oA 4 (.box 88 (.tmp 1)),oA 6 (.newc 88 [.int .i64 0,.str [],.nilp,.nilp,.int .i64 0,.str [],.nils,.nils,.nils,.nils])])
 (.seq (.block 0 (.loop pV))
 (.seq (.ops [oN 89 10 4,oS 10 6 89])
 .ret))),[.celln 6 10]⟩
theorem aBK (own:OwnT) (mode:FuncId→Nat):(qH Tryz.prog own mode).code 58=some c58:=by kernel_rfl
-- (*thunk/thunkref10.machine).let
def a4c:SCode:=
 (.seq (.seq (.ops [oM 14 8,oF 15 2 4,oL 16 15,oE 17 16,oB 18 .lss 14 17])
 (.cond (.tmp 18)
 .skip
 (.exit 0)))
 (.seq (.block 1 (.ops [oM 21 7,oF 22 2 4,oL 23 22,oM 24 8,oP 25 (.iaddr 1 (.tmp 23) (.tmp 24)),oL 26 25,oP 27 (.build [.int .i64 0,.int .i64 0,.str [],.nils,.nils,.nils,.int .i64 0,.str [],.nilp,.nilp,.int .i64 0,.str [],.nils,.nils,.nils,.nils] []),oA 28 (.box 126 (.tmp 27)),oP 29 (.build [.str [],.nilp] [(0,1,.tmp 26),(1,1,.tmp 28)]),oA 30 (.buildS [.str [],.nilp] 1 [(0,2,.tmp 29)]),oW 31 (.append 92 2 24 (.tmp 21) (.tmp 30)),oM 7 31]))
 (.ops [oM 19 8,oJ 20 .add 19 1,oM 8 20])))
def a3Q:SCode:=
 (.seq (.seq (.ops [oM 32 9,oF 33 2 4,oL 34 33,oE 35 34,oB 36 .lss 32 35])
 (.cond (.tmp 36)
 .skip
 (.exit 2)))
 (.seq (.block 3 (.seq (.ops [oM 39 7,oM 40 2,oE 41 40,oM 42 9,oB 43 .add 41 42,oP 44 (.iaddr 2 (.tmp 39) (.tmp 43)),oF 45 1 44,oL 46 45,oM 10 46])
 (.ops [oM 47 10,oM 48 10,oF 49 3 4,oL 50 49,oM 51 9,oP 52 (.iaddr 4 (.tmp 50) (.tmp 51)),oN 53 4 52,oM 54 7,oK 55 47,oF 56 1 55,oS 4 56 53,oK 57 48,oF 58 5 57,oS 1 58 54])))
 (.ops [oM 37 9,oJ 38 .add 37 1,oM 9 38])))
def c59:SFunc:=⟨69,(.seq (.ops [oA 4 (.box 28 (.tmp 1)),oA 6 (.newc 88 [.int .i64 0,.str [],.nilp,.nilp,.int .i64 0,.str [],.nils,.nils,.nils,.nils])])
 (.seq (.ops [oA 11 (.buildS [] 0 []),oM 12 2,oW 13 (.append 92 2 24 (.tmp 11) (.tmp 12)),oM 7 13])
 (.seq (.seq (.ops [oI 8 0])
 (.block 0 (.loop a4c)))
 (.seq (.seq (.ops [oI 9 0])
 (.block 2 (.loop a3Q)))
 (.seq (.ops [oM 59 0,oF 60 3 4,oL 61 60,oF 62 2 4,oL 63 62,oE 64 63,oP 65 (.iaddr 4 (.tmp 61) (.tmp 64)),oN 66 4 65,oM 67 7,oC 68 29 ([.tmp 59,.tmp 66,.tmp 67]),oS 10 6 68])
 .ret))))),[.celln 6 10]⟩
theorem aEN (own:OwnT) (mode:FuncId→Nat):(qH Tryz.prog own mode).code 59=some c59:=by kernel_rfl
-- (*thunk/thunkref10.machine).prim
def c60_l0:SCode:=
 (.seq (.seq (.ops [oM 26 8,oF 27 3 4,oL 28 27,oE 29 28,oB 30 .lss 26 29])
 (.cond (.tmp 30)
 .skip
 (.exit 0)))
 (.seq (.block 1 (.seq (.ops [oM 33 0,oF 34 3 4,oL 35 34,oM 36 8,oP 37 (.iaddr 4 (.tmp 35) (.tmp 36)),oN 38 4 37,oM 39 2,oC 40 29 ([.tmp 33,.tmp 38,.tmp 39]),oA 9 (.newc 88 [.int .i64 0,.str [],.nilp,.nilp,.int .i64 0,.str [],.nils,.nils,.nils,.nils]),oS 10 9 40])
 (.seq (.seq (.ops [oM 41 0,oK 42 41,oF 43 3 42,oF 44 0 43,oL 45 44,oJ 46 .neq 45 0])
 (.cond (.tmp 46)
 (.seq (.ops [oN 47 10 9,oS 10 6 47])
 .ret)
 .skip))
 (.seq (.seq (.ops [oF 48 1 4,oL 49 48,oP 50 (.bin .neq .none (.tmp 49) (.lit (.str [115,101,113]))),oM 51 50,oG 52 51 true (.faddr 1 (.tmp 4)),oG 53 51 true (.load1 (.tmp 52)),oG 54 51 true (.bin .neq .none (.tmp 53) (.lit (.str [101,113,63]))),oP 55 (.pick (.tmp 51) (.tmp 54) (.lit (.bool false))),oM 56 55,oG 57 56 true (.faddr 3 (.tmp 4)),oG 58 56 true (.load1 (.tmp 57)),oG 59 56 true (.lenS (.tmp 58)),oG 60 56 true (.bin .eql .none (.tmp 59) (.lit (.int .i64 2))),oP 61 (.pick (.tmp 56) (.tmp 60) (.lit (.bool false))),oM 62 61,oG 63 62 true (.faddr 0 (.tmp 9)),oG 64 62 true (.load1 (.tmp 63)),oG 65 62 true (.bin .neq .none (.tmp 64) (.lit (.int .i64 1))),oP 66 (.pick (.tmp 62) (.tmp 65) (.lit (.bool false)))])
 (.cond (.tmp 66)
 (.seq (.ops [oM 67 0,oC 68 54 ([.tmp 67,.lit (.int .i64 2),.lit (.str [110,117,109,98,101,114])]),oS 10 6 68])
 .ret)
 .skip))
 (.ops [oM 69 7,oN 70 10 9,oA 71 (.buildS [.int .i64 0,.str [],.nilp,.nilp,.int .i64 0,.str [],.nils,.nils,.nils,.nils] 1 [(0,10,.tmp 70)]),oW 72 (.append 88 10 160 (.tmp 69) (.tmp 71)),oM 7 72])))))
 (.ops [oM 31 8,oJ 32 .add 31 1,oM 8 32])))
def c60:SFunc:=⟨134,(.seq (.ops [oA 4 (.box 28 (.tmp 1)),oA 6 (.newc 88 [.int .i64 0,.str [],.nilp,.nilp,.int .i64 0,.str [],.nils,.nils,.nils,.nils])])
 (.seq (.seq (.ops [oF 10 1 4,oL 11 10,oP 12 (.bin .eql .none (.tmp 11) (.lit (.str [99,111,110,115])))])
 (.cond (.tmp 12)
 (.seq (.draw [oF 13 3 4,oL 14 13,oP 15 (.iaddr 4 (.tmp 14) (.lit (.int .i64 0))),oN 16 4 15,oM 17 2,oF 19 3 4,oL 20 19,oP 21 (.iaddr 4 (.tmp 20) (.lit (.int .i64 1))),oN 22 4 21,oM 23 2] [(oC 18 57 ([.tmp 16,.tmp 17]),[oL 20 19,oN 22 4 21],[]),(oC 24 57 ([.tmp 22,.tmp 23]),[],[oP 25 (.build [.int .i64 0,.str [],.nilp,.nilp,.int .i64 0,.str [],.nils,.nils,.nils,.nils] [(0,1,.lit (.int .i64 5)),(2,1,.tmp 18),(3,1,.tmp 24)])]),(oS 10 6 25,[],[])])
 .ret)
 .skip))
 (.seq (.ops [oP 7 (.move (.lit .nils))])
 (.seq (.seq (.ops [oI 8 0])
 (.block 0 (.loop c60_l0)))
 (.seq (.block 2 (.seq (.ops [oF 74 1 4,oL 75 74,oP 76 (.bin .eql .none (.tmp 75) (.lit (.str [115,101,113]))),oM 73 76])
 (.cond (.tmp 73)
 (.seq (.ops [oM 77 7,oP 78 (.iaddr 10 (.tmp 77) (.lit (.int .i64 1))),oN 79 10 78,oS 10 6 79])
 .ret)
 (.seq (.ops [oF 81 1 4,oL 82 81,oP 83 (.bin .eql .none (.tmp 82) (.lit (.str [101,113,63]))),oM 80 83])
 (.cond (.tmp 80)
 (.seq (.draw [oM 84 7,oP 85 (.iaddr 10 (.tmp 84) (.lit (.int .i64 0))),oN 86 10 85] [(oC 87 62 ([.tmp 86]),[],[oM 88 87,oG 89 88 true (.move (.tmp 7)),oG 90 88 true (.iaddr 10 (.tmp 89) (.lit (.int .i64 0))),oG 91 88 true (.faddr 0 (.tmp 90)),oG 92 88 true (.load1 (.tmp 91)),oG 93 88 true (.move (.tmp 7)),oG 94 88 true (.iaddr 10 (.tmp 93) (.lit (.int .i64 1))),oG 95 88 true (.faddr 0 (.tmp 94)),oG 96 88 true (.load1 (.tmp 95)),oG 97 88 true (.bin .eql .none (.tmp 92) (.tmp 96)),oP 98 (.pick (.tmp 88) (.tmp 97) (.lit (.bool false))),oM 99 98,oG 100 99 true (.move (.tmp 7)),oG 101 99 true (.iaddr 10 (.tmp 100) (.lit (.int .i64 0))),oG 102 99 true (.faddr 1 (.tmp 101)),oG 103 99 true (.load1 (.tmp 102)),oG 104 99 true (.move (.tmp 7)),oG 105 99 true (.iaddr 10 (.tmp 104) (.lit (.int .i64 1))),oG 106 99 true (.faddr 1 (.tmp 105)),oG 107 99 true (.load1 (.tmp 106)),oG 108 99 true (.bin .eql .none (.tmp 103) (.tmp 107)),oP 109 (.pick (.tmp 99) (.tmp 108) (.lit (.bool false)))]),(oC 110 81 ([.tmp 109]),[],[]),(oS 10 6 110,[],[])])
 .ret)
 (.seq (.ops [oM 112 7,oE 113 112,oJ 114 .eql 113 2,oM 111 114])
 (.cond (.tmp 111)
 (.seq (.draw [oM 115 0,oF 116 1 4,oL 117 116,oM 118 7,oP 119 (.iaddr 10 (.tmp 118) (.lit (.int .i64 0))),oF 120 1 119,oL 121 120,oM 122 7,oP 123 (.iaddr 10 (.tmp 122) (.lit (.int .i64 1))),oF 124 1 123,oL 125 124] [(oC 126 82 ([.tmp 115,.tmp 117,.tmp 121,.tmp 125]),[],[]),(oS 10 6 126,[],[])])
 .ret)
 .skip)))))))
 (.seq (.draw [oM 127 0,oF 128 1 4,oL 129 128,oM 130 7,oP 131 (.iaddr 10 (.tmp 130) (.lit (.int .i64 0))),oN 132 10 131] [(oC 133 83 ([.tmp 127,.tmp 129,.tmp 132]),[],[]),(oS 10 6 133,[],[])])
 .ret)))))),[.celln 6 10]⟩
theorem a6L (own:OwnT) (mode:FuncId→Nat):(qH Tryz.prog own mode).code 60=some c60:=by kernel_rfl
-- thunk/thunkref10.constant
def c61:SFunc:=⟨21,(.seq (.ops [oA 1 (.box 28 (.tmp 0)),oA 2 (.newc 88 [.int .i64 0,.str [],.nilp,.nilp,.int .i64 0,.str [],.nils,.nils,.nils,.nils])])
 (.seq (.seq (.ops [oF 3 0 1,oL 4 3])
 (.block 0 (.seq (.ops [oJ 6 .eql 4 1,oM 5 6])
 (.cond (.tmp 5)
 (.seq (.ops [oF 7 1 1,oL 8 7,oP 9 (.build [.int .i64 0,.str [],.nilp,.nilp,.int .i64 0,.str [],.nils,.nils,.nils,.nils] [(0,1,.lit (.int .i64 1)),(1,1,.tmp 8)]),oS 10 2 9])
 .ret)
 (.seq (.ops [oJ 11 .eql 4 2,oM 10 11])
 (.cond (.tmp 10)
 (.seq (.ops [oF 12 1 1,oL 13 12,oP 14 (.build [.int .i64 0,.str [],.nilp,.nilp,.int .i64 0,.str [],.nils,.nils,.nils,.nils] [(0,1,.lit (.int .i64 2)),(1,1,.tmp 13)]),oS 10 2 14])
 .ret)
 (.seq (.ops [oJ 16 .eql 4 4,oM 15 16])
 (.cond (.tmp 15)
 (.seq (.ops [oF 17 1 1,oL 18 17,oP 19 (.build [.int .i64 0,.str [],.nilp,.nilp,.int .i64 0,.str [],.nils,.nils,.nils,.nils] [(0,1,.lit (.int .i64 4)),(1,1,.tmp 18)]),oS 10 2 19])
 .ret)
 .skip))))))))
 (.seq (.ops [oP 20 (.build [.int .i64 0,.str [],.nilp,.nilp,.int .i64 0,.str [],.nils,.nils,.nils,.nils] [(0,1,.lit (.int .i64 3)),(1,1,.lit (.str [40,41]))]),oS 10 2 20])
 .ret))),[.celln 2 10]⟩
theorem aEl (own:OwnT) (mode:FuncId→Nat):(qH Tryz.prog own mode).code 61=some c61:=by kernel_rfl
-- thunk/thunkref10.plain
def c62:SFunc:=⟨11,(.seq (.ops [oA 1 (.box 88 (.tmp 0)),oP 2 (.move (.lit (.bool false)))])
 (.seq (.ops [oF 3 0 1,oL 4 3,oJ 5 .geq 4 1,oM 6 5,oG 7 6 true (.faddr 0 (.tmp 1)),oG 8 6 true (.load1 (.tmp 7)),oG 9 6 true (.bin .leq .none (.tmp 8) (.lit (.int .i64 4))),oP 10 (.pick (.tmp 6) (.tmp 9) (.lit (.bool false))),oM 2 10])
 .ret)),[.tmp 2]⟩
theorem aEh (own:OwnT) (mode:FuncId→Nat):(qH Tryz.prog own mode).code 62=some c62:=by kernel_rfl
-- (*thunk/thunkref10.machine).add
def c63:SFunc:=⟨18,(.seq (.ops [oP 6 (.move (.lit (.str [])))])
 (.seq (.seq (.ops [oM 7 1,oP 8 (.lenT (.tmp 7)),oM 9 2,oP 10 (.lenT (.tmp 9)),oB 11 .add 8 10,oJ 12 .gtr 11 2000])
 (.cond (.tmp 12)
 (.seq (.ops [oM 13 0,oC 14 54 ([.tmp 13,.lit (.int .i64 7),.lit (.str [])])])
 (.seq (.ops [oP 6 (.move (.lit (.str [])))])
 .ret))
 .skip))
 (.seq (.ops [oM 15 1,oM 16 2,oB 17 .add 15 16,oM 6 17])
 .ret))),[.tmp 6]⟩
theorem aAU (own:OwnT) (mode:FuncId→Nat):(qH Tryz.prog own mode).code 63=some c63:=by kernel_rfl
-- thunk/thunkref10.truth
def c81:SFunc:=⟨6,(.seq (.ops [oA 2 (.newc 88 [.int .i64 0,.str [],.nilp,.nilp,.int .i64 0,.str [],.nils,.nils,.nils,.nils])])
 (.seq (.seq (.ops [oM 3 0])
 (.cond (.tmp 3)
 (.seq (.ops [oP 4 (.build [.int .i64 0,.str [],.nilp,.nilp,.int .i64 0,.str [],.nils,.nils,.nils,.nils] [(0,1,.lit (.int .i64 2)),(1,1,.lit (.str [35,116]))]),oS 10 2 4])
 .ret)
 .skip))
 (.seq (.ops [oP 5 (.build [.int .i64 0,.str [],.nilp,.nilp,.int .i64 0,.str [],.nils,.nils,.nils,.nils] [(0,1,.lit (.int .i64 2)),(1,1,.lit (.str [35,102]))]),oS 10 2 5])
 .ret))),[.celln 2 10]⟩
theorem aDE (own:OwnT) (mode:FuncId→Nat):(qH Tryz.prog own mode).code 81=some c81:=by kernel_rfl
-- (*thunk/thunkref10.machine).reckon
def c82:SFunc:=⟨74,(.seq (.ops [oA 8 (.newc 88 [.int .i64 0,.str [],.nilp,.nilp,.int .i64 0,.str [],.nils,.nils,.nils,.nils])])
 (.seq (.ops [oP 9 (.move (.lit (.str []))),oP 10 (.move (.lit (.bool true)))])
 (.seq (.seq (.ops [oM 14 1])
 (.block 0 (.seq (.ops [oP 31 (.bin .eql .none (.tmp 14) (.lit (.str [43]))),oM 30 31])
 (.cond (.tmp 30)
 (.ops [oM 33 2,oM 34 3,oC 35 101 ([.tmp 33,.tmp 34]),oM 32 35,oP 36 (.extract (.tmp 32) 0),oP 37 (.extract (.tmp 32) 1),oM 9 36,oM 10 37])
 (.seq (.ops [oP 39 (.bin .eql .none (.tmp 14) (.lit (.str [45]))),oM 38 39])
 (.cond (.tmp 38)
 (.ops [oM 41 2,oM 42 3,oC 43 102 ([.tmp 41,.tmp 42]),oM 40 43,oP 44 (.extract (.tmp 40) 0),oP 45 (.extract (.tmp 40) 1),oM 9 44,oM 10 45])
 (.seq (.ops [oP 47 (.bin .eql .none (.tmp 14) (.lit (.str [42]))),oM 46 47])
 (.cond (.tmp 46)
 (.ops [oM 49 2,oM 50 3,oC 51 103 ([.tmp 49,.tmp 50]),oM 48 51,oP 52 (.extract (.tmp 48) 0),oP 53 (.extract (.tmp 48) 1),oM 9 52,oM 10 53])
 (.seq (.ops [oP 55 (.bin .eql .none (.tmp 14) (.lit (.str [60]))),oM 54 55])
 (.cond (.tmp 54)
 (.seq (.ops [oM 56 2,oM 57 3,oC 58 104 ([.tmp 56,.tmp 57]),oJ 59 .lss 58 0,oC 60 81 ([.tmp 59]),oS 10 8 60])
 .ret)
 (.seq (.ops [oP 62 (.bin .eql .none (.tmp 14) (.lit (.str [61]))),oM 61 62])
 (.cond (.tmp 61)
 (.seq (.ops [oM 63 2,oM 64 3,oC 65 104 ([.tmp 63,.tmp 64]),oJ 66 .eql 65 0,oC 67 81 ([.tmp 66]),oS 10 8 67])
 .ret)
 (.seq (.ops [oM 16 2,oM 17 3,oC 18 105 ([.tmp 16,.tmp 17]),oM 15 18,oP 19 (.extract (.tmp 15) 0),oP 20 (.extract (.tmp 15) 1),oP 21 (.extract (.tmp 15) 2),oM 11 19,oM 12 20,oM 13 21])
 (.seq (.seq (.ops [oM 22 13,oP 23 (.not (.tmp 22))])
 (.cond (.tmp 23)
 (.seq (.ops [oM 24 0,oC 25 54 ([.tmp 24,.lit (.int .i64 2),.lit (.str [122,101,114,111])]),oS 10 8 25])
 .ret)
 .skip))
 (.seq (.ops [oM 26 11,oM 9 26])
 (.seq (.ops [oM 27 1,oP 28 (.bin .eql .none (.tmp 27) (.lit (.str [114,101,109,97,105,110,100,101,114])))])
 (.cond (.tmp 28)
 (.ops [oM 29 12,oM 9 29])
 .skip)))))))))))))))))
 (.seq (.seq (.ops [oM 68 10,oP 69 (.not (.tmp 68))])
 (.cond (.tmp 69)
 (.seq (.ops [oM 70 0,oC 71 54 ([.tmp 70,.lit (.int .i64 7),.lit (.str [])]),oS 10 8 71])
 .ret)
 .skip))
 (.seq (.ops [oM 72 9,oP 73 (.build [.int .i64 0,.str [],.nilp,.nilp,.int .i64 0,.str [],.nils,.nils,.nils,.nils] [(0,1,.lit (.int .i64 1)),(1,1,.tmp 72)]),oS 10 8 73])
 .ret))))),[.celln 8 10]⟩
theorem aFb (own:OwnT) (mode:FuncId→Nat):(qH Tryz.prog own mode).code 82=some c82:=by kernel_rfl
-- (*thunk/thunkref10.machine).single
def c83:SFunc:=⟨70,(.seq (.ops [oA 5 (.box 88 (.tmp 2)),oA 6 (.newc 88 [.int .i64 0,.str [],.nilp,.nilp,.int .i64 0,.str [],.nils,.nils,.nils,.nils])])
 (.seq (.seq (.ops [oM 7 1])
 (.block 0 (.seq (.seq (.ops [oP 9 (.bin .eql .none (.tmp 7) (.lit (.str [99,97,114]))),oM 8 9])
 (.cond (.tmp 8)
 .skip
 (.ops [oP 10 (.bin .eql .none (.tmp 7) (.lit (.str [99,100,114]))),oM 8 10])))
 (.cond (.tmp 8)
 (.seq (.seq (.ops [oF 11 0 5,oL 12 11,oJ 13 .neq 12 5])
 (.cond (.tmp 13)
 (.seq (.ops [oM 14 0,oC 15 54 ([.tmp 14,.lit (.int .i64 2),.lit (.str [112,97,105,114])]),oS 10 6 15])
 .ret)
 .skip))
 (.seq (.seq (.ops [oM 16 1,oP 17 (.bin .eql .none (.tmp 16) (.lit (.str [99,97,114])))])
 (.cond (.tmp 17)
 (.seq (.ops [oM 18 0,oF 19 2 5,oL 20 19,oC 21 55 ([.tmp 18,.tmp 20]),oS 10 6 21])
 .ret)
 .skip))
 (.seq (.ops [oM 22 0,oF 23 3 5,oL 24 23,oC 25 55 ([.tmp 22,.tmp 24]),oS 10 6 25])
 .ret)))
 (.seq (.ops [oP 27 (.bin .eql .none (.tmp 7) (.lit (.str [110,117,108,108,63]))),oM 26 27])
 (.cond (.tmp 26)
 (.seq (.ops [oF 28 0 5,oL 29 28,oJ 30 .eql 29 3,oC 31 81 ([.tmp 30]),oS 10 6 31])
 .ret)
 (.seq (.ops [oP 33 (.bin .eql .none (.tmp 7) (.lit (.str [112,97,105,114,63]))),oM 32 33])
 (.cond (.tmp 32)
 (.seq (.ops [oF 34 0 5,oL 35 34,oJ 36 .eql 35 5,oC 37 81 ([.tmp 36]),oS 10 6 37])
 .ret)
 (.seq (.ops [oP 39 (.bin .eql .none (.tmp 7) (.lit (.str [105,110,116,101,103,101,114,63]))),oM 38 39])
 (.cond (.tmp 38)
 (.seq (.ops [oF 40 0 5,oL 41 40,oJ 42 .eql 41 1,oC 43 81 ([.tmp 42]),oS 10 6 43])
 .ret)
 (.seq (.ops [oP 45 (.bin .eql .none (.tmp 7) (.lit (.str [115,121,109,98,111,108,63]))),oM 44 45])
 (.cond (.tmp 44)
 (.seq (.ops [oF 46 0 5,oL 47 46,oJ 48 .eql 47 4,oC 49 81 ([.tmp 48]),oS 10 6 49])
 .ret)
 (.seq (.ops [oP 51 (.bin .eql .none (.tmp 7) (.lit (.str [110,111,116]))),oM 50 51])
 (.cond (.tmp 50)
 (.seq (.ops [oF 52 0 5,oL 53 52,oJ 54 .eql 53 2,oM 55 54,oG 56 55 true (.faddr 1 (.tmp 5)),oG 57 55 true (.load1 (.tmp 56)),oG 58 55 true (.bin .eql .none (.tmp 57) (.lit (.str [35,102]))),oP 59 (.pick (.tmp 55) (.tmp 58) (.lit (.bool false))),oC 60 81 ([.tmp 59]),oS 10 6 60])
 .ret)
 .skip))))))))))))))
 (.seq (.seq (.ops [oN 61 10 5,oC 62 62 ([.tmp 61])])
 (.cond (.tmp 62)
 (.seq (.ops [oM 63 0,oF 64 1 5,oL 65 64,oP 66 (.bin .add .none (.lit (.str [101,114,114,111,114,32])) (.tmp 65)),oC 67 54 ([.tmp 63,.lit (.int .i64 2),.tmp 66]),oS 10 6 67])
 .ret)
 .skip))
 (.seq (.ops [oM 68 0,oC 69 54 ([.tmp 68,.lit (.int .i64 2),.lit (.str [101,114,114,111,114])]),oS 10 6 69])
 .ret)))),[.celln 6 10]⟩
theorem aES (own:OwnT) (mode:FuncId→Nat):(qH Tryz.prog own mode).code 83=some c83:=by kernel_rfl
-- thunk/thunkref1.Add
def c101:SFunc:=⟨30,(.seq (.ops [oP 4 (.move (.lit (.str []))),oP 5 (.move (.lit (.bool false)))])
 (.seq (.ops [oM 11 0,oC 12 129 ([.tmp 11]),oM 10 12,oP 13 (.extract (.tmp 10) 0),oP 14 (.extract (.tmp 10) 1),oM 6 13,oM 7 14])
 (.seq (.ops [oM 16 1,oC 17 129 ([.tmp 16]),oM 15 17,oP 18 (.extract (.tmp 15) 0),oP 19 (.extract (.tmp 15) 1),oM 8 18,oM 9 19])
 (.seq (.ops [oM 20 6,oM 21 7,oM 22 8,oM 23 9,oC 24 131 ([.tmp 20,.tmp 21,.tmp 22,.tmp 23]),oP 25 (.extract (.tmp 24) 0),oP 26 (.extract (.tmp 24) 1),oC 27 130 ([.tmp 25,.tmp 26]),oP 28 (.extract (.tmp 27) 0),oP 29 (.extract (.tmp 27) 1),oM 4 28,oM 5 29])
 .ret)))),[.tmp 4,.tmp 5]⟩
theorem aBU (own:OwnT) (mode:FuncId→Nat):(qH Tryz.prog own mode).code 101=some c101:=by kernel_rfl
-- thunk/thunkref1.Sub
def c102:SFunc:=⟨31,(.seq (.ops [oP 4 (.move (.lit (.str []))),oP 5 (.move (.lit (.bool false)))])
 (.seq (.ops [oM 11 0,oC 12 129 ([.tmp 11]),oM 10 12,oP 13 (.extract (.tmp 10) 0),oP 14 (.extract (.tmp 10) 1),oM 6 13,oM 7 14])
 (.seq (.ops [oM 16 1,oC 17 129 ([.tmp 16]),oM 15 17,oP 18 (.extract (.tmp 15) 0),oP 19 (.extract (.tmp 15) 1),oM 8 18,oM 9 19])
 (.seq (.ops [oM 20 6,oM 21 7,oM 22 8,oM 23 9,oP 24 (.not (.tmp 23)),oC 25 131 ([.tmp 20,.tmp 21,.tmp 22,.tmp 24]),oP 26 (.extract (.tmp 25) 0),oP 27 (.extract (.tmp 25) 1),oC 28 130 ([.tmp 26,.tmp 27]),oP 29 (.extract (.tmp 28) 0),oP 30 (.extract (.tmp 28) 1),oM 4 29,oM 5 30])
 .ret)))),[.tmp 4,.tmp 5]⟩
theorem aBX (own:OwnT) (mode:FuncId→Nat):(qH Tryz.prog own mode).code 102=some c102:=by kernel_rfl
-- thunk/thunkref1.Mul
def nY:SCode:=
 (.seq (.seq (.ops [oM 38 13,oM 39 8,oE 40 39,oB 41 .lss 38 40,oM 42 41,oG 43 42 false (.move (.tmp 12)),oG 44 42 false (.bin .gtr .none (.tmp 43) (.lit (.int .i64 0))),oP 45 (.pick (.tmp 42) (.lit (.bool true)) (.tmp 44))])
 (.cond (.tmp 45)
 .skip
 (.exit 2)))
 (.seq (.block 3 (.seq (.ops [oM 48 10,oM 49 11,oM 50 13,oB 51 .add 49 50,oP 52 (.iaddr 1 (.tmp 48) (.tmp 51)),oL 53 52,oM 54 12,oB 55 .add 53 54,oM 14 55])
 (.seq (.seq (.ops [oM 56 13,oM 57 8,oE 58 57,oB 59 .lss 56 58])
 (.cond (.tmp 59)
 (.draw [oM 60 14,oM 61 6,oM 62 11,oP 63 (.iaddr 1 (.tmp 61) (.tmp 62)),oL 64 63,oM 65 8,oM 66 13,oP 67 (.iaddr 1 (.tmp 65) (.tmp 66)),oL 68 67,oB 69 .mul 64 68,oB 70 .add 60 69,oM 14 70] [])
 .skip))
 (.ops [oM 71 10,oM 72 11,oM 73 13,oB 74 .add 72 73,oM 75 14,oJ 76 .rem 75 10,oM 77 14,oJ 78 .quo 77 10,oP 79 (.iaddr 1 (.tmp 71) (.tmp 74)),oS 1 79 76,oM 12 78]))))
 (.ops [oM 46 13,oJ 47 .add 46 1,oM 13 47])))
def a4p:SCode:=
 (.seq (.seq (.ops [oM 32 11,oM 33 6,oE 34 33,oB 35 .lss 32 34])
 (.cond (.tmp 35)
 .skip
 (.exit 0)))
 (.seq (.block 1 (.seq (.ops [oI 12 0])
 (.seq (.ops [oI 13 0])
 (.block 2 (.loop nY)))))
 (.ops [oM 36 11,oJ 37 .add 36 1,oM 11 37])))
def c103:SFunc:=⟨87,(.seq (.ops [oP 4 (.move (.lit (.str []))),oP 5 (.move (.lit (.bool false)))])
 (.seq (.ops [oM 16 0,oC 17 129 ([.tmp 16]),oM 15 17,oP 18 (.extract (.tmp 15) 0),oP 19 (.extract (.tmp 15) 1),oM 6 18,oM 7 19])
 (.seq (.ops [oM 21 1,oC 22 129 ([.tmp 21]),oM 20 22,oP 23 (.extract (.tmp 20) 0),oP 24 (.extract (.tmp 20) 1),oM 8 23,oM 9 24])
 (.seq (.ops [oM 25 6,oE 26 25,oM 27 8,oE 28 27,oB 29 .add 26 28,oJ 30 .add 29 1,oA 31 (.makeS [.int .i64 0] 8 (.tmp 30) (.tmp 30)),oM 10 31])
 (.seq (.seq (.ops [oI 11 0])
 (.block 0 (.loop a4p)))
 (.seq (.ops [oM 80 10,oM 81 7,oM 82 9,oP 83 (.bin .neq .bool (.tmp 81) (.tmp 82)),oC 84 130 ([.tmp 80,.tmp 83]),oP 85 (.extract (.tmp 84) 0),oP 86 (.extract (.tmp 84) 1),oM 4 85,oM 5 86])
 .ret)))))),[.tmp 4,.tmp 5]⟩
theorem aCs (own:OwnT) (mode:FuncId→Nat):(qH Tryz.prog own mode).code 103=some c103:=by kernel_rfl
-- thunk/thunkref1.Cmp
def c104:SFunc:=⟨30,(.seq (.ops [oI 4 0])
 (.seq (.ops [oM 10 0,oC 11 129 ([.tmp 10]),oM 9 11,oP 12 (.extract (.tmp 9) 0),oP 13 (.extract (.tmp 9) 1),oM 5 12,oM 6 13])
 (.seq (.ops [oM 15 1,oC 16 129 ([.tmp 15]),oM 14 16,oP 17 (.extract (.tmp 14) 0),oP 18 (.extract (.tmp 14) 1),oM 7 17,oM 8 18])
 (.seq (.seq (.ops [oM 19 6,oM 20 8,oP 21 (.bin .neq .bool (.tmp 19) (.tmp 20))])
 (.cond (.tmp 21)
 (.seq (.seq (.ops [oM 22 6])
 (.cond (.tmp 22)
 (.seq (.ops [oP 4 (.move (.lit (.int .i64 (-1))))])
 .ret)
 .skip))
 (.seq (.ops [oI 4 1])
 .ret))
 .skip))
 (.seq (.seq (.ops [oM 23 6])
 (.cond (.tmp 23)
 (.seq (.ops [oM 24 7,oM 25 5,oC 26 132 ([.tmp 24,.tmp 25]),oM 4 26])
 .ret)
 .skip))
 (.seq (.ops [oM 27 5,oM 28 7,oC 29 132 ([.tmp 27,.tmp 28]),oM 4 29])
 .ret)))))),[.tmp 4]⟩
theorem aBQ (own:OwnT) (mode:FuncId→Nat):(qH Tryz.prog own mode).code 104=some c104:=by kernel_rfl
-- thunk/thunkref1.Quo
def a0P:SCode:=
 (.seq (.seq (.ops [oM 49 12,oM 50 9,oC 51 132 ([.tmp 49,.tmp 50]),oJ 52 .geq 51 0])
 (.cond (.tmp 52)
 .skip
 (.exit 2)))
 (.block 3 (.seq (.ops [oM 53 12,oM 54 9,oC 55 134 ([.tmp 53,.tmp 54]),oM 12 55])
 (.ops [oM 56 11,oM 57 13,oJ 58 .sub 57 1,oP 59 (.iaddr 1 (.tmp 56) (.tmp 58)),oL 60 59,oJ 61 .add 60 1,oP 62 (.iaddr 1 (.tmp 56) (.tmp 58)),oS 1 62 61]))))
def a4f:SCode:=
 (.seq (.seq (.ops [oM 36 13,oJ 37 .gtr 36 0])
 (.cond (.tmp 37)
 .skip
 (.exit 0)))
 (.seq (.block 1 (.seq (.ops [oM 40 7,oM 41 13,oJ 42 .sub 41 1,oP 43 (.iaddr 1 (.tmp 40) (.tmp 42)),oL 44 43,oA 45 (.buildS [.int .i64 0] 1 [(0,1,.tmp 44)]),oM 46 12,oW 47 (.append 3 1 8 (.tmp 45) (.tmp 46)),oC 48 133 ([.tmp 47]),oM 12 48])
 (.block 2 (.loop a0P))))
 (.ops [oM 38 13,oJ 39 .sub 38 1,oM 13 39])))
def c105:SFunc:=⟨79,(.seq (.ops [oP 4 (.move (.lit (.str []))),oP 5 (.move (.lit (.str []))),oP 6 (.move (.lit (.bool false)))])
 (.seq (.ops [oM 19 0,oC 20 129 ([.tmp 19]),oM 18 20,oP 21 (.extract (.tmp 18) 0),oP 22 (.extract (.tmp 18) 1),oM 7 21,oM 8 22])
 (.seq (.ops [oM 24 1,oC 25 129 ([.tmp 24]),oM 23 25,oP 26 (.extract (.tmp 23) 0),oP 27 (.extract (.tmp 23) 1),oM 9 26,oM 10 27])
 (.seq (.seq (.ops [oM 28 9,oE 29 28,oJ 30 .eql 29 0])
 (.cond (.tmp 30)
 (.seq (.ops [oP 4 (.move (.lit (.str []))),oP 5 (.move (.lit (.str []))),oP 6 (.move (.lit (.bool false)))])
 .ret)
 .skip))
 (.seq (.ops [oM 31 7,oE 32 31,oA 33 (.makeS [.int .i64 0] 8 (.tmp 32) (.tmp 32)),oM 11 33])
 (.seq (.ops [oP 12 (.move (.lit .nils))])
 (.seq (.seq (.ops [oM 34 7,oE 35 34,oM 13 35])
 (.block 0 (.loop a4f)))
 (.seq (.ops [oM 64 11,oM 65 8,oM 66 10,oP 67 (.bin .neq .bool (.tmp 65) (.tmp 66)),oC 68 130 ([.tmp 64,.tmp 67]),oM 63 68,oP 69 (.extract (.tmp 63) 0),oP 70 (.extract (.tmp 63) 1),oM 14 69,oM 15 70])
 (.seq (.ops [oM 72 12,oM 73 8,oC 74 130 ([.tmp 72,.tmp 73]),oM 71 74,oP 75 (.extract (.tmp 71) 0),oP 76 (.extract (.tmp 71) 1),oM 16 75,oM 17 76])
 (.seq (.ops [oM 77 14,oM 78 16,oM 4 77,oM 5 78,oP 6 (.move (.lit (.bool true)))])
 .ret)))))))))),[.tmp 4,.tmp 5,.tmp 6]⟩
theorem a7X (own:OwnT) (mode:FuncId→Nat):(qH Tryz.prog own mode).code 105=some c105:=by kernel_rfl
-- thunk/thunkref1.digits
def a0W:SCode:=
 (.seq (.seq (.ops [oM 15 6,oJ 16 .gtr 15 0])
 (.cond (.tmp 16)
 .skip
 (.exit 0)))
 (.seq (.block 1 (.ops [oM 19 5,oM 20 0,oM 21 6,oJ 22 .sub 21 1,oP 23 (.indexT (.tmp 20) (.tmp 22)),oP 24 (.bin .sub .none (.tmp 23) (.lit (.int .u8 48))),oP 25 (.toInt .i64 (.tmp 24)),oA 26 (.buildS [.int .i64 0] 1 [(0,1,.tmp 25)]),oW 27 (.append 3 1 8 (.tmp 19) (.tmp 26)),oM 5 27]))
 (.ops [oM 17 6,oJ 18 .sub 17 1,oM 6 18])))
def c129:SFunc:=⟨31,(.seq (.ops [oP 2 (.move (.lit .nils)),oP 3 (.move (.lit (.bool false)))])
 (.seq (.ops [oM 7 0,oP 8 (.indexT (.tmp 7) (.lit (.int .i64 0))),oP 9 (.bin .eql .none (.tmp 8) (.lit (.int .u8 45))),oM 4 9])
 (.seq (.seq (.ops [oM 10 4])
 (.cond (.tmp 10)
 (.ops [oM 11 0,oP 12 (.sliceT (.tmp 11) (some (.lit (.int .i64 1))) none),oM 0 12])
 .skip))
 (.seq (.ops [oP 5 (.move (.lit .nils))])
 (.seq (.seq (.ops [oM 13 0,oP 14 (.lenT (.tmp 13)),oM 6 14])
 (.block 0 (.loop a0W)))
 (.seq (.ops [oM 28 5,oC 29 133 ([.tmp 28]),oM 30 4,oM 2 29,oM 3 30])
 .ret)))))),[.tmp 2,.tmp 3]⟩
theorem aDg (own:OwnT) (mode:FuncId→Nat):(qH Tryz.prog own mode).code 129=some c129:=by kernel_rfl
-- thunk/thunkref1.text
def a0Y:SCode:=
 (.seq (.seq (.ops [oM 22 7,oJ 23 .gtr 22 0])
 (.cond (.tmp 23)
 .skip
 (.exit 0)))
 (.seq (.block 1 (.ops [oM 26 6,oM 27 0,oM 28 7,oJ 29 .sub 28 1,oP 30 (.iaddr 1 (.tmp 27) (.tmp 29)),oL 31 30,oP 32 (.bin .add .none (.lit (.int .i64 48)) (.tmp 31)),oP 33 (.toInt .u8 (.tmp 32)),oA 34 (.buildS [.int .u8 0] 1 [(0,1,.tmp 33)]),oW 35 (.append 5 1 1 (.tmp 26) (.tmp 34)),oM 6 35]))
 (.ops [oM 24 7,oJ 25 .sub 24 1,oM 7 25])))
def c130:SFunc:=⟨38,(.seq (.ops [oP 4 (.move (.lit (.str []))),oP 5 (.move (.lit (.bool false)))])
 (.seq (.ops [oM 8 0,oC 9 133 ([.tmp 8]),oM 0 9])
 (.seq (.seq (.ops [oM 10 0,oE 11 10,oJ 12 .eql 11 0])
 (.cond (.tmp 12)
 (.seq (.ops [oP 4 (.move (.lit (.str [48]))),oP 5 (.move (.lit (.bool true)))])
 .ret)
 .skip))
 (.seq (.seq (.ops [oM 13 0,oE 14 13,oJ 15 .gtr 14 200])
 (.cond (.tmp 15)
 (.seq (.ops [oP 4 (.move (.lit (.str []))),oP 5 (.move (.lit (.bool false)))])
 .ret)
 .skip))
 (.seq (.ops [oP 6 (.move (.lit .nils))])
 (.seq (.seq (.ops [oM 16 1])
 (.cond (.tmp 16)
 (.ops [oM 17 6,oA 18 (.buildS [.int .u8 0] 1 [(0,1,.lit (.int .u8 45))]),oW 19 (.append 5 1 1 (.tmp 17) (.tmp 18)),oM 6 19])
 .skip))
 (.seq (.seq (.ops [oM 20 0,oE 21 20,oM 7 21])
 (.block 0 (.loop a0Y)))
 (.seq (.ops [oM 36 6,oP 37 (.bytesStr (.tmp 36)),oM 4 37,oP 5 (.move (.lit (.bool true)))])
 .ret)))))))),[.tmp 4,.tmp 5]⟩
theorem aC7 (own:OwnT) (mode:FuncId→Nat):(qH Tryz.prog own mode).code 130=some c130:=by kernel_rfl
-- thunk/thunkref1.sum
def c131:SFunc:=⟨29,(.seq (.ops [oP 8 (.move (.lit .nils)),oP 9 (.move (.lit (.bool false)))])
 (.seq (.seq (.ops [oM 10 1,oM 11 3,oP 12 (.bin .eql .bool (.tmp 10) (.tmp 11))])
 (.cond (.tmp 12)
 (.seq (.ops [oM 13 0,oM 14 2,oC 15 151 ([.tmp 13,.tmp 14]),oM 16 1,oM 8 15,oM 9 16])
 .ret)
 .skip))
 (.seq (.seq (.ops [oM 17 0,oM 18 2,oC 19 132 ([.tmp 17,.tmp 18]),oJ 20 .geq 19 0])
 (.cond (.tmp 20)
 (.seq (.ops [oM 21 0,oM 22 2,oC 23 134 ([.tmp 21,.tmp 22]),oM 24 1,oM 8 23,oM 9 24])
 .ret)
 .skip))
 (.seq (.ops [oM 25 2,oM 26 0,oC 27 134 ([.tmp 25,.tmp 26]),oM 28 3,oM 8 27,oM 9 28])
 .ret)))),[.tmp 8,.tmp 9]⟩
theorem a3Y (own:OwnT) (mode:FuncId→Nat):(qH Tryz.prog own mode).code 131=some c131:=by kernel_rfl
-- thunk/thunkref1.cmp
def a0V:SCode:=
 (.seq (.seq (.ops [oM 19 5,oJ 20 .gtr 19 0])
 (.cond (.tmp 20)
 .skip
 (.exit 0)))
 (.seq (.block 1 (.seq (.draw [oM 23 0,oM 24 5,oJ 25 .sub 24 1,oP 26 (.iaddr 1 (.tmp 23) (.tmp 25)),oL 27 26,oM 28 1,oM 29 5,oJ 30 .sub 29 1,oP 31 (.iaddr 1 (.tmp 28) (.tmp 30)),oL 32 31,oB 33 .neq 27 32] [])
 (.cond (.tmp 33)
 (.seq (.draw [oM 34 0,oM 35 5,oJ 36 .sub 35 1,oP 37 (.iaddr 1 (.tmp 34) (.tmp 36)),oL 38 37,oM 39 1,oM 40 5,oJ 41 .sub 40 1,oP 42 (.iaddr 1 (.tmp 39) (.tmp 41)),oL 43 42,oB 44 .sub 38 43] [(oC 45 152 ([.tmp 44]),[],[oM 4 45])])
 .ret)
 .skip)))
 (.ops [oM 21 5,oJ 22 .sub 21 1,oM 5 22])))
def c132:SFunc:=⟨46,(.seq (.ops [oI 4 0])
 (.seq (.seq (.ops [oM 6 0,oE 7 6,oM 8 1,oE 9 8,oB 10 .neq 7 9])
 (.cond (.tmp 10)
 (.seq (.ops [oM 11 0,oE 12 11,oM 13 1,oE 14 13,oB 15 .sub 12 14,oC 16 152 ([.tmp 15]),oM 4 16])
 .ret)
 .skip))
 (.seq (.seq (.ops [oM 17 0,oE 18 17,oM 5 18])
 (.block 0 (.loop a0V)))
 (.seq (.ops [oI 4 0])
 .ret)))),[.tmp 4]⟩
theorem aCn (own:OwnT) (mode:FuncId→Nat):(qH Tryz.prog own mode).code 132=some c132:=by kernel_rfl
-- thunk/thunkref1.trim
def uW:SCode:=
 (.seq (.seq (.ops [oM 3 0,oE 4 3,oJ 5 .gtr 4 0,oM 6 5,oG 7 6 true (.move (.tmp 0)),oG 8 6 true (.move (.tmp 0)),oG 9 6 true (.lenS (.tmp 8)),oG 10 6 true (.bin .sub .none (.tmp 9) (.lit (.int .i64 1))),oG 11 6 true (.iaddr 1 (.tmp 7) (.tmp 10)),oG 12 6 true (.load1 (.tmp 11)),oG 13 6 true (.bin .eql .none (.tmp 12) (.lit (.int .i64 0))),oP 14 (.pick (.tmp 6) (.tmp 13) (.lit (.bool false)))])
 (.cond (.tmp 14)
 .skip
 (.exit 0)))
 (.block 1 (.ops [oM 15 0,oM 16 0,oE 17 16,oJ 18 .sub 17 1,oP 19 (.sliceS 1 (.tmp 15) none (some (.tmp 18)) none),oM 0 19])))
def c133:SFunc:=⟨21,(.seq (.ops [oP 2 (.move (.lit .nils))])
 (.seq (.block 0 (.loop uW))
 (.seq (.ops [oM 20 0,oM 2 20])
 .ret))),[.tmp 2]⟩
theorem aCF (own:OwnT) (mode:FuncId→Nat):(qH Tryz.prog own mode).code 133=some c133:=by kernel_rfl
-- thunk/thunkref1.less
def nP:SCode:=
 (.seq (.seq (.ops [oM 9 7,oM 10 0,oE 11 10,oB 12 .lss 9 11])
 (.cond (.tmp 12)
 .skip
 (.exit 0)))
 (.seq (.block 1 (.seq (.ops [oM 15 0,oM 16 7,oP 17 (.iaddr 1 (.tmp 15) (.tmp 16)),oL 18 17,oM 19 6,oB 20 .sub 18 19,oM 8 20])
 (.seq (.seq (.ops [oM 21 7,oM 22 1,oE 23 22,oB 24 .lss 21 23])
 (.cond (.tmp 24)
 (.ops [oM 25 8,oM 26 1,oM 27 7,oP 28 (.iaddr 1 (.tmp 26) (.tmp 27)),oL 29 28,oB 30 .sub 25 29,oM 8 30])
 .skip))
 (.seq (.ops [oI 6 0])
 (.seq (.seq (.ops [oM 31 8,oJ 32 .lss 31 0])
 (.cond (.tmp 32)
 (.ops [oM 33 8,oJ 34 .add 33 10,oM 8 34,oI 6 1])
 .skip))
 (.ops [oM 35 5,oM 36 8,oA 37 (.buildS [.int .i64 0] 1 [(0,1,.tmp 36)]),oW 38 (.append 3 1 8 (.tmp 35) (.tmp 37)),oM 5 38]))))))
 (.ops [oM 13 7,oJ 14 .add 13 1,oM 7 14])))
def c134:SFunc:=⟨41,(.seq (.ops [oP 4 (.move (.lit .nils))])
 (.seq (.ops [oP 5 (.move (.lit .nils))])
 (.seq (.ops [oI 6 0])
 (.seq (.seq (.ops [oI 7 0])
 (.block 0 (.loop nP)))
 (.seq (.ops [oM 39 5,oC 40 133 ([.tmp 39]),oM 4 40])
 .ret))))),[.tmp 4]⟩
theorem aDf (own:OwnT) (mode:FuncId→Nat):(qH Tryz.prog own mode).code 134=some c134:=by kernel_rfl
-- thunk/thunkref1.plus
def nV:SCode:=
 (.seq (.seq (.ops [oM 8 7,oM 9 0,oE 10 9,oB 11 .lss 8 10,oM 12 11,oG 13 12 false (.move (.tmp 7)),oG 14 12 false (.move (.tmp 1)),oG 15 12 false (.lenS (.tmp 14)),oG 16 12 false (.bin .lss .none (.tmp 13) (.tmp 15)),oP 17 (.pick (.tmp 12) (.lit (.bool true)) (.tmp 16)),oM 18 17,oG 19 18 false (.move (.tmp 6)),oG 20 18 false (.bin .gtr .none (.tmp 19) (.lit (.int .i64 0))),oP 21 (.pick (.tmp 18) (.lit (.bool true)) (.tmp 20))])
 (.cond (.tmp 21)
 .skip
 (.exit 0)))
 (.seq (.block 1 (.seq (.seq (.ops [oM 24 7,oM 25 0,oE 26 25,oB 27 .lss 24 26])
 (.cond (.tmp 27)
 (.ops [oM 28 6,oM 29 0,oM 30 7,oP 31 (.iaddr 1 (.tmp 29) (.tmp 30)),oL 32 31,oB 33 .add 28 32,oM 6 33])
 .skip))
 (.seq (.seq (.ops [oM 34 7,oM 35 1,oE 36 35,oB 37 .lss 34 36])
 (.cond (.tmp 37)
 (.ops [oM 38 6,oM 39 1,oM 40 7,oP 41 (.iaddr 1 (.tmp 39) (.tmp 40)),oL 42 41,oB 43 .add 38 42,oM 6 43])
 .skip))
 (.seq (.ops [oM 44 5,oM 45 6,oJ 46 .rem 45 10,oA 47 (.buildS [.int .i64 0] 1 [(0,1,.tmp 46)]),oW 48 (.append 3 1 8 (.tmp 44) (.tmp 47)),oM 5 48])
 (.ops [oM 49 6,oJ 50 .quo 49 10,oM 6 50])))))
 (.ops [oM 22 7,oJ 23 .add 22 1,oM 7 23])))
def c151:SFunc:=⟨52,(.seq (.ops [oP 4 (.move (.lit .nils))])
 (.seq (.ops [oP 5 (.move (.lit .nils))])
 (.seq (.ops [oI 6 0])
 (.seq (.seq (.ops [oI 7 0])
 (.block 0 (.loop nV)))
 (.seq (.ops [oM 51 5,oM 4 51])
 .ret))))),[.tmp 4]⟩
theorem aCw (own:OwnT) (mode:FuncId→Nat):(qH Tryz.prog own mode).code 151=some c151:=by kernel_rfl
end Go.Lite
/-
  The document's numbers: digits, the lowest first; their texts.
-/
namespace Go.Lite
open Go Go.Proofs
def W (v:AV) (l:List Nat):Prop:=(∃ f,v= .lst 0 0 f []∧l=[])∨∃ g,v= .lst 1 l.length g (l.flatMap nat1)
theorem W.vN (f:Bool) (l:List Nat):W (vN f l) l:=by
 cases l with
 | nil=>exact .inl ⟨f,rfl,rfl⟩
 | cons x l=>exact .inr ⟨false,rfl⟩
theorem W.len {v:AV}{l:List Nat}(h:W v l):lenM v=some (.int .i64 l.length):=by
 rcases h with⟨f,rfl,rfl⟩|⟨g,rfl⟩<;>rfl
theorem W.flat {v:AV}{l:List Nat}(h:W v l):v.flat=true:=by
 rcases h with⟨f,rfl,rfl⟩|⟨g,rfl⟩<;>rfl
theorem W.at {v:AV}{l:List Nat}(h:W v l) {j x:Nat}(hj:l[j]? = some x):xV 1 v j=some (.ptr (.val [.int .i64 (x:Int)]) 0):=by
 have hlt:=(List.getElem?_eq_some_iff.1 hj).1
 rcases h with⟨f,rfl,rfl⟩|⟨g,rfl⟩
 · simp at hj
 · have h1:=uZ yZ l j
   rw[hj]at h1
   rw[a0h,if_pos ⟨hlt,rfl⟩,h1];rfl
theorem W.slice {v:AV}{l:List Nat}(h:W v l) {j:Nat}(hj:j≤l.length):∃ y,zV 1 v none (some j) none=some y∧W y (l.take j):=by
 rcases h with⟨f,rfl,rfl⟩|⟨g,rfl⟩
 · obtain rfl:j=0:=by simpa using hj
   refine⟨.lst 0 0 f [],?_,.inl ⟨f,rfl,by simp⟩⟩
   simp only[zV,Option.getD_some,Option.getD_none]
   rw[if_pos ⟨by omega,by omega,by omega,.inr trivial⟩]
   cases f<;>simp
 · have h1:=rC yZ l j
   refine⟨.lst 1 j (bif g then Nat.beq l.length j else false) ((l.take j).flatMap nat1),?_,.inr ⟨bif g then Nat.beq l.length j else false,by rw[List.length_take,Nat.min_eq_left hj]⟩⟩
   simp only[zV,Option.getD_some,Option.getD_none]
   rw[if_pos ⟨by omega,by omega,by omega,.inl trivial⟩,Nat.zero_mul,List.drop_zero,Nat.sub_zero,h1]
theorem W.shut {v:AV}{l:List Nat}(h:W v l):∃ f,(∀ H,shutV v H=some (Lite.vN f l,H))∧(∀ H,Lite.shutA v H=some (Lite.vN f l,H)):=by
 rcases h with⟨f,rfl,rfl⟩|⟨g,rfl⟩
 · exact⟨f,fun H=>rfl,fun H=>rfl⟩
 · exact⟨g,fun H=>rfl,fun H=>rfl⟩
def W0 (l:List Nat):AV:= .lst 1 l.length false (l.flatMap nat1)
theorem aBc (l:List Nat):lenM (W0 l)=some (.int .i64 l.length):=rfl
theorem W0_W (l:List Nat):W (W0 l) l:= .inr ⟨false,rfl⟩
theorem aA9 {l:List Nat}{j:Nat}(hj:j≤l.length):zV 1 (W0 l) none (some j) none=some (W0 (l.take j)):=by
 have h1:=rC yZ l j
 have h2:(l.take j).length=j:=by rw[List.length_take,Nat.min_eq_left hj]
 simp only[W0,zV,Option.getD_some,Option.getD_none,cond_false]
 rw[if_pos ⟨by omega,by omega,by omega,.inl trivial⟩,Nat.zero_mul,List.drop_zero,Nat.sub_zero,h1,h2]
theorem aDc {l:List Nat}{H:Heap}:shutV (W0 l) H=some (vN false l,H):=rfl
theorem aGc {f:Bool}{l:List Nat}(h:l≠[]):vN f l=W0 l:=by
 cases l with
 | nil=>exact absurd rfl h
 | cons x l=>rfl
def tf (f:Bool) (l:List Nat):Bool:=if l=[]then f else false
theorem a4I (f : Bool) (l : List Nat) (hl : l.length ≤ 1000000) : Ret P5 133 [vN f l] (vN (tf f l) (xD l)) := by
 refine Ret.of rfl (aCF _ _) rfl rfl (fun H=>by simp -implicitDefEqProofs only[↓qA,ZZ,seval,BS]) ((Ev.ge (l.length+2)).mono fun n hge H=> ?_)
 have hle:=gG l
 by_cases h0:l=[]
 · subst h0
   obtain⟨m,rfl⟩:∃ m,n=m+1:=⟨n-1,by omega⟩
   have hgt:¬((0:Nat):Int)>0:=by omega
   simp -implicitDefEqProofs only[c133,uW,↓qA,ZZ,seval,qX,mZ,hgt,xA,tf,a8N,Ends,qC]
   exact⟨_,rfl⟩
 · have ht : tf f l = false := by unfold tf; rw [if_neg h0]
   rw[ht,aGc h0]
   simp -implicitDefEqProofs only[c133,↓qA,ZZ,seval]
   refine qM (l.length-(xD l).length) (fun i fr H=>fr 0=W0 (l.take (l.length-i))) ?_ ?_ n 0 _ _ (by omega) (by omega) ?_
   · rintro i fr H K' hi h00 hKe hKr hK
     obtain⟨j,hj⟩:∃ j,l.length-i=j+1:=⟨l.length-i-1,by omega⟩
     rw[hj]at h00
     rw[show l.length-(i+1)=j by omega]at hK
     have hlj:(l.take (j+1)).length=j+1:=by rw[List.length_take];omega
     have hat:(l.take (j+1))[j]? = some 0:=by
      rw[List.getElem?_take_of_lt (by omega),xQ (by omega),a7H (l:=l) (i:=j) (by omega) (by omega)]
     have ha:=(W0_W (l.take (j+1))).at hat
     have hs:=aA9 (l:=l.take (j+1)) (j:=j) (by omega)
     rw[List.take_take,Nat.min_eq_left (by omega)]at hs
     have hln:=aBc (l.take (j+1))
     rw[hlj]at hln
     have hgt:((j+1:Nat):Int)>0:=by omega
     have hw:IntKind.i64.wrap (((j+1:Nat):Int)-1)=(j:Int):=by rw[wrap64 (by omega) (by omega)];omega
     have hz:(((0:Nat):Int)==0)=true:=rfl
     generalize W0 (l.take (j+1))=v at *
     generalize W0 (l.take j)=v' at *
     simp -implicitDefEqProofs only[uW,↓qA,ZZ,seval,h00,hln,hgt,hw,ha,hz,hs]
     refine hK _ _ ?_
     simp -implicitDefEqProofs only[↓qA,ZZ,seval]
   · rintro fr H K' h00 hKe hKr
     rw[show l.length-(l.length-(xD l).length)=(xD l).length by omega,←dW]at h00
     have hln:=aBc (xD l)
     have hsh:=fun H=>aDc (l:=xD l) (H:=H)
     by_cases hne:xD l=[]
     · have hz:(xD l).length=0:=by rw[hne];rfl
       rw[hz]at hln
       have hgt:¬((0:Nat):Int)>0:=by omega
       generalize W0 (xD l)=v at *
       simp -implicitDefEqProofs only[uW,↓qA,ZZ,seval,h00,hln,hgt,hKe,xA,hsh,Ends,qC]
       exact⟨_,rfl⟩
     · have hp:=List.length_pos_iff.2 hne
       have hgt:(((xD l).length:Nat):Int)>0:=by omega
       have hw:IntKind.i64.wrap (((xD l).length:Int)-1)=(((xD l).length-1:Nat):Int):=by rw[wrap64 (by omega) (by omega)];omega
       have hat:(xD l)[(xD l).length-1]? = some (atN l ((xD l).length-1)):=by
        have h5:(xD l)[(xD l).length-1]? = (l.take (xD l).length)[(xD l).length-1]? := by rw[←dW]
        rw[h5,List.getElem?_take_of_lt (by omega),xQ (by omega)]
       have ha:=(W0_W (xD l)).at hat
       have hz:(((atN l ((xD l).length-1):Nat):Int)==0)=false:=by simpa using a5s hne
       generalize W0 (xD l)=v at *
       simp -implicitDefEqProofs only[uW,↓qA,ZZ,seval,h00,hln,hgt,hw,ha,hz,hKe,xA,hsh,Ends,qC]
       exact⟨_,rfl⟩
   · rw[Nat.sub_zero,List.take_length]
     simp -implicitDefEqProofs only[↓qA,ZZ,seval]
end Go.Lite
/-
  The document's digits of a text.
-/
namespace Go.Lite
open Go Go.Proofs
def digL (d:Str):Nat→List Nat
 | 0=>[]
 | i+1=>digL d i++[atN d (d.length-(i+1))-48]
theorem dJ (d:Str):∀ i,(digL d i).length=i
 | 0=>rfl
 | i+1=>by simp[digL,dJ d i]
theorem a7u {d:Str}(h:Digs d):∀ i,i≤d.length→Under 10 (digL d i)∧lval 10 (digL d i)=dval (d.drop (d.length-i))
 | 0,_=>⟨.nil,by simp[digL,lval,dval]⟩
 | i+1,hi=>by
   obtain⟨h1,h2⟩:=a7u h i (by omega)
   have hlt:d.length-(i+1)<d.length:=by omega
   have hd:=h _ (List.mem_of_getElem? (xQ hlt))
   refine⟨h1.snoc (by omega),?_⟩
   have h3:d.drop (d.length-(i+1))=[atN d (d.length-(i+1))]++d.drop (d.length-i):=by
    rw[List.drop_eq_getElem_cons hlt,show d.length-(i+1)+1=d.length-i by omega]
    have:=xQ hlt
    rw[List.getElem?_eq_getElem hlt]at this
    simp only[Option.some.injEq]at this
    rw[←this];rfl
   have h4:(d.drop (d.length-i)).length=i:=by rw[List.length_drop];omega
   have h5:dval [atN d (d.length-(i+1))]=atN d (d.length-(i+1))-48:=by simp[dval]
   rw[digL,yP,dJ,h2,h3,jJ,h4,h5,Nat.mul_comm]
   omega
theorem a9l {d:Str}(h:Digs d):xD (digL d d.length)=limbs 10 (dval d):=by
 obtain⟨h1,h2⟩:=a7u h d.length (Nat.le_refl _)
 rw[Nat.sub_self,List.drop_zero]at h2
 rw[←h2,vS (by omega) h1]
theorem aAm {c:Nat}(h1:48≤c) (h2:c≤57):IntKind.u8.wrap ((c:Int)-48)=((c-48:Nat):Int):=by
 have:∀ c:Nat,c<58→48≤c→IntKind.u8.wrap ((c:Int)-48)=((c-48:Nat):Int):=by decide
 exact this c (by omega) h1
theorem a5w {z:Int}(h:z<0):decZ z=45::decZ (z.natAbs:Int):=by
 rw[vM];unfold decZ;rw[if_pos h]
theorem a4T {z:Int}(h:0≤z):decZ z=decZ (z.natAbs:Int):=by
 rw[vM];unfold decZ;rw[if_neg (by omega)]
theorem vU (z:Int) {k:Nat}(hz:z.natAbs<10^(k+1)) (hk:k≤2000):Ret P5 129 [.str (decZ z)] (.tuple [vN false (limbs 10 z.natAbs),.bool (decide (z<0))]):=by
 have hd:=vW z.natAbs
 have hv:=jP z.natAbs
 have hl:=(kQ (n:=z.natAbs) (k:=k+1) (by omega)).2 hz
 have hne:=List.length_pos_iff.2 (pI z.natAbs)
 have htrim:=a9l hd
 rw[hv]at htrim
 have e43:=a4I true (digL (decN z.natAbs) (decN z.natAbs).length) (by rw[dJ];omega)
 have hfl:tf true (digL (decN z.natAbs) (decN z.natAbs).length)=false:=by
  unfold tf;rw[if_neg];intro h;have:=dJ (decN z.natAbs) (decN z.natAbs).length;rw[h]at this;simp at this;omega
 rw[hfl,htrim]at e43
 obtain⟨c0,t0,hs,hc256,h45⟩:=a8M z
 have hA:decZ (z.natAbs:Int)=if z<0 then t0 else c0::t0:=by
  by_cases h:z<0
  · have:=a5w h;rw[hs]at this;rw[if_pos h];exact(List.cons.inj this).2.symm
  · have:=a4T (z:=z) (by omega);rw[hs]at this;rw[if_neg h];exact this.symm
 rw[vM]at hA
 generalize hdd:decN z.natAbs=d at *
 refine Ret.of rfl (aDg _ _) rfl rfl (fun H=>by simp -implicitDefEqProofs only[↓qA,ZZ,seval]) ((e43.and (Ev.ge (d.length+2))).mono fun n e H=> ?_)
 obtain⟨e1,hge⟩:=e
 have loop:∀ (fr:Fr) (H:Heap),HLow H→fr 0= .str d→fr 4= .bool (decide (z<0))→fr 5= .nils→fr 6= .int .i64 (d.length:Nat)→
  Ends (zQ (qB P5 n) n a0W n fr H (a0z 0 (seqK (qB P5 n) n (SCode.seq (SCode.ops [SOper.mk (some 28) none (SOp.p (POp.move (SX.tmp 5))),SOper.mk (some 29) none (SOp.call (SX.lit (AV.func 133 [])) [SX.tmp 28]),SOper.mk (some 30) none (SOp.p (POp.move (SX.tmp 4))),SOper.mk (some 2) none (SOp.p (POp.move (SX.tmp 29))),SOper.mk (some 3) none (SOp.p (POp.move (SX.tmp 30)))]) SCode.ret) (finish [ResV.tmp 2,ResV.tmp 3])))) (.tuple [vN false (limbs 10 z.natAbs),.bool (decide (z<0))]):=by
  intro fr H low h0 h4 h5 h6
  refine qM d.length (fun i fr H=>fr 0= .str d∧fr 4= .bool (decide (z<0))∧fr 6= .int .i64 (d.length-i:Nat)∧HLow H∧Acc 0 H 3 1 i ((digL d i).flatMap nat1) (fr 5)) ?_ ?_ n 0 _ _ (by omega) (by omega) ⟨h0,h4,by simpa using h6,low,by rw[h5];exact Acc.nil⟩
  · rintro i fr H K' hi ⟨h0,h4,h6,low,acc⟩ hKe hKr hK
    obtain⟨j,hj⟩:∃ j,j=d.length-(i+1):=⟨_,rfl⟩
    have hdg:=hd _ (List.mem_of_getElem? (xQ (l:=d) (i:=j) (by omega)))
    rw[show d.length-i=j+1 by omega]at h6
    have hgt:((j+1:Nat):Int)>0:=by omega
    have hw:IntKind.i64.wrap (((j+1:Nat):Int)-1)=(j:Int):=by rw[wrap64 (by omega) (by omega)];omega
    have hnx:digL d (i+1)=digL d i++[atN d j-48]:=by rw[hj];rfl
    rw[hnx,←hj]at hK
    have hat:=xQ (l:=d) (i:=j) (by omega)
    have w1:=aAm hdg.1 hdg.2
    have w2:IntKind.i64.wrap ((atN d j-48:Nat):Int)=((atN d j-48:Nat):Int):=wrap64 (by omega) (by omega)
    obtain⟨H7,happ,acc7,low7,hn7,car7⟩:=yV acc low (Nat.zero_le _) (atN d j-48) (by omega) (dJ d i)
    generalize hv5:fr 5=v at *
    simp -implicitDefEqProofs only[a0W,↓qA,ZZ,seval,h0,h6,hgt,hw,hat,w1,w2,hv5,acc.flat,happ]
    refine hK _ _ ⟨?_,?_,?_,low7,?_⟩
    all_goals simp -implicitDefEqProofs only[↓qA,ZZ,Nat.reduceBEq,reduceIte,Nat.reduceAdd,Nat.reduceLeDiff,Nat.reduceEqDiff,Nat.reduceBneDiff,h0,h4]
    exact acc7
  · rintro fr H K' ⟨h0,h4,h6,low,acc⟩ hKe hKr
    rw[Nat.sub_self]at h6
    have hgt:¬((0:Nat):Int)>0:=by omega
    obtain⟨H',hs,kp⟩:=acc.shutV (by decide) (yK _)
    have hs':shutV (fr 5) H=some (vN true (digL d d.length),H'):=by
     rw[hs];show some (AV.L true 1 _ d.length,H')=some (AV.L true 1 _ (digL d d.length).length,H');rw[dJ]
    simp -implicitDefEqProofs only[a0W,↓qA,ZZ,Nat.reduceBEq,reduceIte,Nat.reduceAdd,Nat.reduceLeDiff,Nat.reduceEqDiff,Nat.reduceBneDiff,CL,BS,h4,h6,hgt,hKe,xA,hs',e1,qC]
    exact⟨_,rfl⟩
 have i1:((0:Int)≤1)=True:=by simp
 have i2:Int.toNat 1=1:=rfl
 rw[hs]
 by_cases hn:z<0
 · rw[decide_eq_true hn]at h45
   rw[if_pos hn]at hA
   subst hA
   have h6:List.take (d.length+1-1) d=d:=List.take_of_length_le (by omega)
   have h7:1≤d.length+1:=by omega
   simp -implicitDefEqProofs only[c129,↓qA,ZZ,Nat.reduceBEq,reduceIte,Nat.reduceAdd,Nat.reduceLeDiff,Nat.reduceEqDiff,Nat.reduceBneDiff,a5p,aD6,i1,i2,h45,h6,h7]
   refine loop _ _ HLow.bare ?_ ?_ ?_ ?_
   all_goals simp -implicitDefEqProofs only[↓qA,ZZ,Nat.reduceBEq,reduceIte,Nat.reduceAdd,Nat.reduceLeDiff,Nat.reduceEqDiff,Nat.reduceSub,Nat.reduceMul,Nat.reduceDiv,Nat.reduceBneDiff,decide_eq_true hn]
 · rw[decide_eq_false hn]at h45
   rw[if_neg hn]at hA
   rw[←hA]
   have hA':c0::t0=d:=hA.symm
   have h0i:d[0]? = some c0:=by rw[hA];rfl
   simp -implicitDefEqProofs only[c129,↓qA,ZZ,seval,a5p,aD6,i1,i2,h45,h0i]
   refine loop _ _ HLow.bare ?_ ?_ ?_ ?_
   all_goals simp -implicitDefEqProofs only[↓qA,ZZ,Nat.reduceBEq,reduceIte,Nat.reduceAdd,Nat.reduceLeDiff,Nat.reduceEqDiff,Nat.reduceBneDiff,decide_eq_false hn]
end Go.Lite
/-
  The document's text of a row of digits.
-/
namespace Go.Lite
open Go Go.Proofs
theorem a6N (n:Nat):0<n→decN n=(limbs 10 n).reverse.map (48+ ·):=by
 induction n using Nat.strongRecOn with
 | _ n ih=>
   intro hn
   rw[yN (by omega) hn,List.reverse_cons,List.map_append]
   by_cases h:n<10
   · rw[zN h,show n/10=0 by omega,zT,show n%10=n by omega];rfl
   · rw[a2u h,ih (n/10) (by omega) (by omega)];rfl
def sgnP (neg:Bool):Str:=if neg then[45]else[]
theorem aAq {T:List Nat}{i:Nat}(h:i<T.length):(T.reverse.take (i+1)).map (48+ ·)=(T.reverse.take i).map (48+ ·)++[48+atN T (T.length-(i+1))]:=by
 have h1:T.reverse[i]? = some (atN T (T.length-(i+1))):=by
  rw[List.getElem?_reverse h,show T.length-1-i=T.length-(i+1)by omega,xQ (by omega)]
 rw[List.take_add_one,h1,Option.toList_some,List.map_append];rfl
theorem a2o (f neg : Bool) (l : List Nat) (hl : Under 10 l) (hlen : l.length ≤ 900000) : Ret P5 130 [vN f l, .bool neg] (opT (valZ neg (lval 10 l))) := by
 have e43:=a4I f l (by omega)
 have htr:=vS (B:=10) (by omega) hl
 rw[←htr]at e43
 generalize hn:lval 10 l=n at *
 generalize tf f l=g at *
 have hu:=qL (B:=10) (by omega) n
 have hTl:(limbs 10 n).length≤900000:=by have:=gG l;rw[←htr]at this;omega
 refine Ret.of rfl (aC7 _ _) rfl rfl (fun H=>by simp -implicitDefEqProofs only[↓qA,ZZ,seval,BS]) ((e43.and (Ev.ge ((limbs 10 n).length+5))).mono fun m e H=> ?_)
 obtain⟨e1,hge⟩:=e
 have hna:(valZ neg n).natAbs=n:=by unfold valZ;split<;>simp
 by_cases h0:n=0
 · subst h0
   have hr:opT (valZ neg 0)= .tuple [.str [48],.bool true]:=by
    have:valZ neg 0=0:=by cases neg<;>rfl
    rw[this];simp[opT,opZ,decZ,zN]
   rw[hr]
   rw[zT]at e1
   have hz:(((0:Nat):Int)==0)=true:=rfl
   simp -implicitDefEqProofs only[c130,↓qA,ZZ,seval,CL,BS,mZ,mZ ▸ e1,e1,hz,Ends,qC]
   exact⟨_,rfl⟩
 · have hdec := a6N n (by omega)
   have hdl:(decN n).length=(limbs 10 n).length:=by rw[hdec];simp
   have hlp:0<(limbs 10 n).length:=by have:=List.length_pos_iff.2 (pI n);omega
   have hz:(((limbs 10 n).length:Int)==0)=false:=by rw[beq_eq_false_iff_ne];omega
   have hiff:=kQ (n:=n) (k:=200) (by omega)
   have h256:=a1n n
   generalize hT:limbs 10 n=T at *
   by_cases hsh:n<10^200
   · have hgt:¬(T.length:Int)>200:=by have:=hiff.2 hsh;omega
     have hop:opT (valZ neg n)= .tuple [.str (sgnP neg++decN n),.bool true]:=by
      unfold opT opZ
      rw[hna,if_pos hsh,decide_eq_true hsh]
      unfold valZ sgnP
      cases neg with
      | true=>rw[if_pos rfl,if_pos rfl,a2h (by omega)];rfl
      | false=>rw[if_neg (by simp),if_neg (by simp),vM];rfl
     rw[hop]
     have hP:(sgnP neg).length≤1:=by unfold sgnP;split<;>simp
     have hP256:∀ c∈sgnP neg,c<256:=by unfold sgnP;split<;>simp
     have loop:∀ (fr:Fr) (H:Heap),HLow H→fr 0=vN g T→Acc 0 H 5 1 (sgnP neg).length (bytes (sgnP neg)) (fr 6)→fr 7= .int .i64 (T.length:Nat)→
      Ends (zQ (qB P5 m) m a0Y m fr H (a0z 0 (seqK (qB P5 m) m (SCode.seq (SCode.ops [SOper.mk (some 36) none (SOp.p (POp.move (SX.tmp 6))),SOper.mk (some 37) none (SOp.p (POp.bytesStr (SX.tmp 36))),SOper.mk (some 4) none (SOp.p (POp.move (SX.tmp 37))),SOper.mk (some 5) none (SOp.p (POp.move (SX.lit (AV.bool true))))]) SCode.ret) (finish [ResV.tmp 4,ResV.tmp 5])))) (.tuple [.str (sgnP neg++decN n),.bool true]):=by
      intro fr H low h00 acc h7
      refine qM T.length (fun i fr H=>fr 0=vN g T∧fr 7= .int .i64 (T.length-i:Nat)∧HLow H∧Acc 0 H 5 1 ((sgnP neg).length+i) (bytes (sgnP neg++(T.reverse.take i).map (48+ ·))) (fr 6)) ?_ ?_ m 0 _ _ (by omega) (by omega) ⟨h00,by simpa using h7,low,by simpa using acc⟩
      · rintro i fr H K' hi ⟨h00,h7,low,acc⟩ hKe hKr hK
        obtain⟨j,hj⟩:∃ j,j=T.length-(i+1):=⟨_,rfl⟩
        rw[show T.length-i=j+1 by omega]at h7
        rw[aAq hi,←hj,←List.append_assoc]at hK
        have hgt:((j+1:Nat):Int)>0:=by omega
        have hw:IntKind.i64.wrap (((j+1:Nat):Int)-1)=(j:Int):=by rw[wrap64 (by omega) (by omega)];omega
        have ha:=zM (f:=g) (xQ (l:=T) (i:=j) (by omega))
        have hlt:=zK (by omega) hu j
        obtain⟨H7,happ,acc7,low7,hn7,car7,cai7⟩:=a0x (d:=48+atN T j) acc low (Nat.zero_le _) (by omega)
        generalize hv6:fr 6=v at *
        simp -implicitDefEqProofs only[a0Y,↓qA,ZZ,seval,h00,h7,hgt,hw,ha,a6F hlt,a6S hlt,hv6,acc.flat,happ]
        refine hK _ _ ⟨?_,?_,low7,?_⟩
        all_goals simp -implicitDefEqProofs only[↓qA,ZZ,Nat.reduceBEq,reduceIte,Nat.reduceAdd,Nat.reduceLeDiff,Nat.reduceEqDiff,Nat.reduceBneDiff,h00]
        exact acc7
      · rintro fr H K' ⟨h00,h7,low,acc⟩ hKe hKr
        rw[Nat.sub_self]at h7
        have hgt0:¬((0:Nat):Int)>0:=by omega
        rw[show T.reverse.take T.length=T.reverse from List.take_of_length_le (by simp),←hdec]at acc
        have hstr:=a7I acc (by rw[List.length_append,hdl]) (fun c hc=>(List.mem_append.1 hc).elim (hP256 c) (h256 c))
        simp -implicitDefEqProofs only[a0Y,↓qA,ZZ,seval,h7,hgt0,hKe,xA,hstr,qC]
        exact⟨_,rfl⟩
     cases neg with
     | true=>
       obtain⟨H7,happ,acc7,low7,hn7,car7,cai7⟩:=a0x (N:=0) (n:=0) (d:=45) (H:=H.bare) (s:=[]) (v:= .nils) Acc.nil HLow.bare (Nat.zero_le _) (by omega)
       simp -implicitDefEqProofs only[vB]at happ acc7
       rw[show((45:Nat):Int)=45 from rfl]at happ
       simp -implicitDefEqProofs only[c130,↓qA,ZZ,seval,CL,BS,e1,hz,hgt,happ]
       refine loop _ _ low7 ?_ ?_ ?_
       all_goals simp -implicitDefEqProofs only[↓qA,ZZ,Nat.reduceBEq,reduceIte,Nat.reduceAdd,Nat.reduceLeDiff,Nat.reduceEqDiff,Nat.reduceBneDiff]
       exact acc7
     | false=>
       simp -implicitDefEqProofs only[c130,↓qA,ZZ,seval,CL,BS,e1,hz,hgt]
       refine loop _ _ HLow.bare ?_ ?_ ?_
       all_goals simp -implicitDefEqProofs only[↓qA,ZZ,Nat.reduceBEq,reduceIte,Nat.reduceAdd,Nat.reduceLeDiff,Nat.reduceEqDiff,Nat.reduceBneDiff]
       exact Acc.nil
   · have hgt:(T.length:Int)>200:=by
      have:¬(decN n).length≤200:=fun h=>hsh (hiff.1 h)
      omega
     have hop:opT (valZ neg n)= .tuple [.str [],.bool false]:=by
      unfold opT opZ
      rw[hna,if_neg hsh,decide_eq_false hsh]
     rw[hop]
     simp -implicitDefEqProofs only[c130,↓qA,ZZ,seval,CL,BS,e1,hz,hgt,Ends,qC]
     exact⟨_,rfl⟩
end Go.Lite
/-
  The document's product.
-/
namespace Go.Lite
open Go Go.Proofs
def MR (p q:Bool) (x y:List Nat) (Z:List Nat) (i:Nat) (fr:Fr) (H:Heap):Prop:=
 fr 6=vN false x∧fr 7= .bool p∧fr 8=vN false y∧fr 9= .bool q∧fr 10= .slice (.new 0) 0 (x.length+y.length+1) (.fix (x.length+y.length+1) 1)∧fr 11= .int .i64 (i:Nat)∧
 H.t.get 0=some (.row (Z.flatMap nat1) 0 false none)
theorem aCc {n m : Nat} {p q : Bool} {x y Z : List Nat} {i : Nat} {fr : Fr} {H : Heap} {KK : Ex → Fr → Heap → R} {Q : AV → Heap → Prop} (hx : Under 10 x) (hy : Under 10 y) (hZ : Under 10 Z) (hi : i < x.length) (hZl : Z.length = x.length + y.length + 1) (hv : lval 10 Z < 10 ^ (i + y.length)) (hlx : x.length ≤ 300000) (hly : y.length ≤ 300000)
 (hm:y.length+2<m) (h0:MR p q x y Z i fr H) (h12:fr 12= .int .i64 (0:Nat)) (h13:fr 13= .int .i64 (0:Nat))
 (hK:∀ (fr:Fr) (H:Heap),MR p q x y (xM 10 (atN x i) y Z i (y.length+1)).1 i fr H→Gives (KK (.exit 2) fr H) Q):
 Gives (zQ (qB P5 n) n nY m fr H KK) Q:=by
 have hB:2≤10:=by omega
 have ha:=zK (by omega) hx i
 have hax:=zM (f:=false) (xQ hi)
 generalize atN x i=a at *
 refine qM (y.length+1) (fun j fr H=>MR p q x y (xM 10 a y Z i j).1 i fr H∧fr 12= .int .i64 ((xM 10 a y Z i j).2:Nat)∧fr 13= .int .i64 (j:Nat)) ?_ ?_ m 0 _ _ (by omega) (by omega) ⟨h0,h12,h13⟩
 · rintro j fr H K' hj ⟨⟨h6,h7,h8,h9,h10,h11,g0⟩,h12,h13⟩ hKe hKr hK'
   obtain⟨p1,p2,p3,p4⟩:=dI (i:=i) hB ha hy hZ j (by omega)
   have a1:=zK (by omega) p2 (i+j)
   have a2:=zK (by omega) hy j
   have hr:=a1R a1 ha a2 p3
   by_cases hst:j<y.length∨0<(xM 10 a y Z i j).2
   · have hnx:xM 10 a y Z i (j+1)=((xM 10 a y Z i j).1.set (i+j) ((atN (xM 10 a y Z i j).1 (i+j)+a*atN y j+(xM 10 a y Z i j).2)%10),(atN (xM 10 a y Z i j).1 (i+j)+a*atN y j+(xM 10 a y Z i j).2)/10):=rfl
     rw[hnx]at hK'
     generalize (xM 10 a y Z i j).2=c at *
     generalize (xM 10 a y Z i j).1=U at *
     have hpl:i+j<U.length:=by omega
     have hpN:i+j<x.length+y.length+1:=by omega
     have hat':=a4a hpl
     have hset:=fun v=>a1G (v:=v) hpl
     have hlen:=gU U
     have hplC:i+j+1≤(U.flatMap nat1).length:=by omega
     have w0:IntKind.i64.wrap ((i:Int)+(j:Int))=((i+j:Nat):Int):=nE (by omega)
     have w8:=qY (i:=j) (n:=y.length+1) hj (by omega)
     have w6:((10:Int)==0)=false:=rfl
     have w7:¬(10:Int)=0:=by omega
     by_cases hlt:j<y.length
     · have hay:=zM (f:=false) (xQ hlt)
       have hlt':(j:Int)<(y.length:Int):=by omega
       generalize hz:atN U (i+j)=z at *
       generalize hb:atN y j=b at *
       generalize hab:a*b=ab at *
       have w1:IntKind.i64.wrap ((a:Int)*(b:Int))=((ab:Nat):Int):=by
        have:(a:Int)*(b:Int)=((ab:Nat):Int):=by rw[←hab];simp
        rw[this,wrap64 (by omega) (by omega)]
       have w2:IntKind.i64.wrap ((z:Int)+(c:Int))=((z+c:Nat):Int):=by rw[wrap64 (by omega) (by omega)];rfl
       have w3:IntKind.i64.wrap (((z+c:Nat):Int)+(ab:Int))=((z+ab+c:Nat):Int):=by rw[wrap64 (by omega) (by omega)];omega
       have w4:=sZ (a:=z+ab+c) (b:=10) (by omega) (by omega)
       have w5:=uX (z+ab+c) 10
       rw[show((10:Nat):Int)=10 from rfl]at w4 w5
       generalize z+ab+c=d at *
       have hset':=hset (d%10)
       generalize hC:U.flatMap nat1=C at *
       generalize hC':(U.set (i+j) (d%10)).flatMap nat1=C' at *
       simp -implicitDefEqProofs only[nY,↓qA,ZZ,seval,CL,BS,Nat.mul_one,h6,h8,h10,h11,h12,h13,g0,hlt',hpN,hat',hax,hay,hplC,hset',w0,w1,w2,w3,w4,w5,w6,w7,w8]
       refine hK' _ _ ⟨⟨?_,?_,?_,?_,?_,?_,?_⟩,?_,?_⟩
       all_goals simp -implicitDefEqProofs only[↓qA,ZZ,Nat.reduceBEq,reduceIte,Nat.reduceAdd,Nat.reduceLeDiff,Nat.reduceEqDiff,Nat.reduceBneDiff,h6,h7,h8,h9,h10,h11,hC']
     · have hlt':¬(j:Int)<(y.length:Int):=by omega
       have hc0:(c:Int)>0:=by have:=hst.resolve_left hlt;omega
       rw[dS (l:=y) (by omega),Nat.mul_zero,Nat.add_zero]at hK' hr
       generalize hz:atN U (i+j)=z at *
       have w2:IntKind.i64.wrap ((z:Int)+(c:Int))=((z+c:Nat):Int):=by rw[wrap64 (by omega) (by omega)];rfl
       have w4:=sZ (a:=z+c) (b:=10) (by omega) (by omega)
       have w5:=uX (z+c) 10
       rw[show((10:Nat):Int)=10 from rfl]at w4 w5
       generalize z+c=d at *
       have hset':=hset (d%10)
       generalize hC:U.flatMap nat1=C at *
       generalize hC':(U.set (i+j) (d%10)).flatMap nat1=C' at *
       simp -implicitDefEqProofs only[nY,↓qA,ZZ,seval,CL,BS,Nat.mul_one,h6,h8,h10,h11,h12,h13,g0,hlt',hc0,hpN,hat',hplC,hset',w0,w2,w4,w5,w6,w7,w8]
       refine hK' _ _ ⟨⟨?_,?_,?_,?_,?_,?_,?_⟩,?_,?_⟩
       all_goals simp -implicitDefEqProofs only[↓qA,ZZ,Nat.reduceBEq,reduceIte,Nat.reduceAdd,Nat.reduceLeDiff,Nat.reduceEqDiff,Nat.reduceBneDiff,h6,h7,h8,h9,h10,h11,hC']
   · obtain rfl:j=y.length:=by omega
     have hc:(xM 10 a y Z i y.length).2=0:=by omega
     have hstop:=a2y (i:=i) hB ha hy hZ (by omega) hc
     rw[hstop]at hK
     rw[hc]at h12
     have hc0:¬((0:Nat):Int)>0:=by omega
     simp -implicitDefEqProofs only[nY,↓qA,ZZ,seval,BS,h8,h12,h13,Int.lt_irrefl,hc0,hKe]
     refine hK _ _ ⟨?_,?_,?_,?_,?_,?_,g0⟩
     all_goals simp -implicitDefEqProofs only[↓qA,ZZ,Nat.reduceBEq,reduceIte,Nat.reduceAdd,Nat.reduceLeDiff,Nat.reduceEqDiff,Nat.reduceBneDiff,h6,h7,h8,h9,h10,h11]
 · rintro fr H K' ⟨⟨h6,h7,h8,h9,h10,h11,g0⟩,h12,h13⟩ hKe hKr
   have hc:=(a0e (i:=i) hB ha hy hZ (by omega) hv).1
   rw[hc]at h12
   have hc0:¬((0:Nat):Int)>0:=by omega
   have hlt':¬((y.length+1:Nat):Int)<(y.length:Int):=by omega
   simp -implicitDefEqProofs only[nY,↓qA,ZZ,seval,BS,h8,h12,h13,hlt',hc0,hKe]
   refine hK _ _ ⟨?_,?_,?_,?_,?_,?_,g0⟩
   all_goals simp -implicitDefEqProofs only[↓qA,ZZ,Nat.reduceBEq,reduceIte,Nat.reduceAdd,Nat.reduceLeDiff,Nat.reduceEqDiff,Nat.reduceBneDiff,h6,h7,h8,h9,h10,h11]
theorem aGh (x y:Int) {k:Nat}(hx:x.natAbs<10^(k+1)) (hy:y.natAbs<10^(k+1)) (hk:k≤2000):Ret P5 103 [.str (decZ x),.str (decZ y)] (opT (x*y)):=by
 have hB:2≤10:=by omega
 have hl1:=xW hB hx
 have hl2:=xW hB hy
 have hu1:=qL hB x.natAbs
 have hu2:=qL hB y.natAbs
 have hv1:=qN hB x.natAbs
 have hv2:=qN hB y.natAbs
 have d1:=vU x hx hk
 have d2:=vU y hy hk
 have hmv:valZ (!(decide (x<0)==decide (y<0))) (x.natAbs*y.natAbs)=x*y:=a7B x y
 generalize limbs 10 x.natAbs=X at *
 generalize limbs 10 y.natAbs=Y at *
 have hok:=a0w hB hu1 hu2
 have hfin:=hok X.length (Nat.le_refl _)
 rw[List.take_of_length_le (Nat.le_refl _),hv1,hv2]at hfin
 have htx:=a2o true (!(decide (x<0)==decide (y<0))) (vR 10 X Y X.length) hfin.2.1 (by rw[hfin.1];omega)
 rw[hfin.2.2,hmv]at htx
 refine Ret.of rfl (aCs _ _) rfl rfl (fun H=>by simp -implicitDefEqProofs only[↓qA,ZZ,seval]) ?_
 refine(d1.and (d2.and (htx.and (Ev.ge (X.length+Y.length+20))))).mono fun n e H=> ?_
 obtain⟨e1,e2,e3,hge⟩:=e
 unfold opT at e3 ⊢
 have w0:IntKind.i64.wrap ((X.length:Int)+(Y.length:Int))=((X.length+Y.length:Nat):Int):=nE (by omega)
 have w1:IntKind.i64.wrap (((X.length+Y.length:Nat):Int)+1)=((X.length+Y.length+1:Nat):Int):=qY (n:=X.length+Y.length+1) (by omega) (by omega)
 have c1:(X.length+Y.length+1)*8≤1099511627776∧X.length+Y.length+1≤1099511627776:=by omega
 simp -implicitDefEqProofs only[c103,↓qA,ZZ,seval,CL,BS,e1,e2,w0,w1,c1.1,c1.2,nN]
 refine uT (fun e fr H=>e= .exit 0∧MR (decide (x<0)) (decide (y<0)) X Y (vR 10 X Y X.length) X.length fr H) ?_ fun KK fin=> ?_
 · rintro e fr H ⟨rfl,h6,h7,h8,h9,h10,h11,g0⟩
   have hsh:=a00 (by rw[hfin.1];omega) g0
   rw[hfin.1]at hsh
   simp -implicitDefEqProofs only[↓qA,ZZ,seval,CL,BS,xA,h7,h9,h10,hsh,e3,qC]
   exact⟨_,rfl⟩
 · refine qM X.length (fun i fr H=>MR (decide (x<0)) (decide (y<0)) X Y (vR 10 X Y i) i fr H) ?_ ?_ n 0 _ _ (by omega) (by omega) ?_
   · rintro i fr H K' hi ⟨h6,h7,h8,h9,h10,h11,g0⟩ hKe hKr hK
     obtain⟨q1,q2,q3⟩:=hok i (by omega)
     have hsm:=a0s hB hu1 hu2 (i:=i) (by omega) q3
     have hlt:(i:Int)<(X.length:Int):=by omega
     have hw:=qY (i:=i) (n:=X.length) hi (by omega)
     simp -implicitDefEqProofs only[a4p,↓qA,ZZ,seval,CL,BS,h6,h11,hlt]
     refine aCc (Z:=vR 10 X Y i) (i:=i) (p:=decide (x<0)) (q:=decide (y<0)) (x:=X) (y:=Y) hu1 hu2 q2 hi q1 hsm (by omega) (by omega) (by omega) ⟨?_,?_,?_,?_,?_,?_,g0⟩ ?_ ?_ ?_
     any_goals simp -implicitDefEqProofs only[↓qA,ZZ,Nat.reduceBEq,reduceIte,Nat.reduceAdd,Nat.reduceLeDiff,Nat.reduceEqDiff,Nat.reduceBneDiff,h6,h7,h8,h9,h10,h11]
     any_goals rfl
     rintro fr H ⟨h6,h7,h8,h9,h10,h11,g0⟩
     simp -implicitDefEqProofs only[↓qA,ZZ,seval,xA,h11,hw]
     refine hK _ _ ⟨?_,?_,?_,?_,?_,?_,g0⟩
     all_goals simp -implicitDefEqProofs only[↓qA,ZZ,Nat.reduceBEq,reduceIte,Nat.reduceAdd,Nat.reduceLeDiff,Nat.reduceEqDiff,Nat.reduceBneDiff,h6,h7,h8,h9,h10]
   · rintro fr H K' ⟨h6,h7,h8,h9,h10,h11,g0⟩ hKe hKr
     simp -implicitDefEqProofs only[a4p,↓qA,ZZ,seval,BS,h6,h11,Int.lt_irrefl,hKe]
     refine fin _ _ _ ⟨rfl,?_,?_,?_,?_,?_,?_,g0⟩
     all_goals simp -implicitDefEqProofs only[↓qA,ZZ,Nat.reduceBEq,reduceIte,Nat.reduceAdd,Nat.reduceLeDiff,Nat.reduceEqDiff,Nat.reduceBneDiff,h6,h7,h8,h9,h10,h11]
   · refine⟨?_,?_,?_,?_,?_,?_,?_⟩
     all_goals simp -implicitDefEqProofs only[↓qA,ZZ,Nat.reduceBEq,reduceIte,Nat.reduceAdd,Nat.reduceLeDiff,Nat.reduceEqDiff,Nat.reduceBneDiff]
     all_goals rfl
end Go.Lite
/-
  The document's sums and differences of rows of digits.
-/
namespace Go.Lite
open Go Go.Proofs
theorem aEQ (f g : Bool) (x y : List Nat) (hx : Under 10 x) (hy : Under 10 y) (hlx : x.length ≤ 300000) (hly : y.length ≤ 300000) :
 ∃ z,Ret P5 151 [vN f x,vN g y] (vN true z)∧Under 10 z∧lval 10 z=lval 10 x+lval 10 y∧z.length≤x.length+y.length+1:=by
 have hB:2≤10:=by omega
 have hok:=u6 hB hx hy
 obtain⟨M,hM1,hM2,hM3,hM4⟩:∃ M:Nat,x.length≤M∧y.length≤M∧(M=x.length∨M=y.length)∧M≤x.length+y.length:=by
  by_cases h:x.length≤y.length
  · exact⟨y.length,h,Nat.le_refl _,.inr rfl,by omega⟩
  · exact⟨x.length,Nat.le_refl _,by omega,.inl rfl,by omega⟩
 obtain⟨N,hN⟩:∃ N,N=M+(zJ 10 x y M).2:=⟨_,rfl⟩
 have hcM:=(hok M).2.2.1
 have hend:lval 10 (zJ 10 x y N).1=lval 10 x+lval 10 y∧(zJ 10 x y N).2=0:=by
  by_cases h0:(zJ 10 x y M).2=0
  · have hNM:N=M:=by omega
    obtain⟨g1,g2,g3,g4⟩:=hok M
    rw[h0,List.take_of_length_le hM1,List.take_of_length_le hM2]at g4
    rw[hNM]
    exact⟨by omega,h0⟩
  · have hNM:N=M+1:=by omega
    rw[hNM]
    exact a3C hB hx hy (by omega) (by omega)
 refine⟨(zJ 10 x y N).1,?_,(hok N).2.1,hend.1,by rw[(hok N).1];omega⟩
 refine Ret.of rfl (aCw _ _) rfl rfl (fun H=>by simp -implicitDefEqProofs only[↓qA,ZZ,seval,BS]) ((Ev.ge (N+2)).mono fun n hge H=> ?_)
 simp -implicitDefEqProofs only[c151,↓qA,ZZ,seval,BS]
 refine qM N (fun i fr H=>fr 0=vN f x∧fr 1=vN g y∧fr 7= .int .i64 i∧fr 6= .int .i64 ((zJ 10 x y i).2:Nat)∧HLow H∧Acc 0 H 3 1 i ((zJ 10 x y i).1.flatMap nat1) (fr 5)) ?_ ?_ n 0 _ _ (by omega) (by omega) ?_
 · rintro i fr H K' hi ⟨h0,h1,h7,h6,low,acc⟩ hKe hKr hK
   obtain⟨p1,p2,p3,p4⟩:=hok i
   have a1:=zK (by omega) hx i
   have a2:=zK (by omega) hy i
   have hw:=qY (i:=i) (n:=N) hi (by omega)
   have hnx:zJ 10 x y (i+1)=((zJ 10 x y i).1++[(atN x i+atN y i+(zJ 10 x y i).2)%10],(atN x i+atN y i+(zJ 10 x y i).2)/10):=rfl
   rw[hnx]at hK
   have hcase : i < x.length ∨ i < y.length ∨ 0 < (zJ 10 x y i).2 := by
    by_cases q1:i<x.length
    · exact .inl q1
    · by_cases q2:i<y.length
      · exact .inr (.inl q2)
      · have:i=M:=by omega
        subst this
        exact .inr (.inr (by omega))
   generalize (zJ 10 x y i).2=c at *
   generalize (zJ 10 x y i).1=out at *
   have w5:((10:Int)==0)=false:=rfl
   have w6:¬(10:Int)=0:=by omega
   have w1:IntKind.i64.wrap ((c:Int)+(atN x i:Int))=((c+atN x i:Nat):Int):=by rw[wrap64 (by omega) (by omega)];rfl
   have w2:IntKind.i64.wrap (((c+atN x i:Nat):Int)+(atN y i:Int))=((c+atN x i+atN y i:Nat):Int):=by rw[wrap64 (by omega) (by omega)];rfl
   have w2':IntKind.i64.wrap ((c:Int)+(atN y i:Int))=((c+atN y i:Nat):Int):=by rw[wrap64 (by omega) (by omega)];rfl
   have key:∀ d:Nat,d≤19→IntKind.i64.wrap ((d:Int).tdiv 10)=((d/10:Nat):Int)∧(d:Int).tmod 10=((d%10:Nat):Int):=fun d hd=>⟨sZ (a:=d) (b:=10) (by omega) (by omega),uX d 10⟩
   by_cases q1:i<x.length
   · have hl1:(i:Int)<(x.length:Int):=by omega
     have ha:=zM (f:=f) (xQ q1)
     by_cases q2:i<y.length
     · have hl2:(i:Int)<(y.length:Int):=by omega
       have hb:=zM (f:=g) (xQ q2)
       rw[show atN x i+atN y i+c=c+atN x i+atN y i by omega]at hK
       obtain⟨w3,w4⟩:=key (c+atN x i+atN y i) (by omega)
       generalize c+atN x i+atN y i=d at *
       obtain⟨H7,happ,acc7,low7,hn7,car7⟩:=yV acc low (Nat.zero_le _) (d%10) (by omega) p1
       generalize hv:fr 5=v at *
       simp -implicitDefEqProofs only[nV,↓qA,ZZ,seval,CL,BS,h0,h1,h7,h6,hv,hl1,hl2,hw,ha,hb,w1,w2,w3,w4,w5,w6,acc.flat,happ]
       refine hK _ _ ⟨?_,?_,?_,?_,low7,?_⟩
       all_goals simp -implicitDefEqProofs only[↓qA,ZZ,Nat.reduceBEq,reduceIte,Nat.reduceAdd,Nat.reduceLeDiff,Nat.reduceEqDiff,Nat.reduceBneDiff,h0,h1]
       exact acc7
     · have hl2:¬(i:Int)<(y.length:Int):=by omega
       rw[dS (l:=y) (by omega)]at hK
       rw[show atN x i+0+c=c+atN x i by omega]at hK
       obtain⟨w3,w4⟩:=key (c+atN x i) (by omega)
       generalize c+atN x i=d at *
       obtain⟨H7,happ,acc7,low7,hn7,car7⟩:=yV acc low (Nat.zero_le _) (d%10) (by omega) p1
       generalize hv:fr 5=v at *
       simp -implicitDefEqProofs only[nV,↓qA,ZZ,seval,CL,BS,h0,h1,h7,h6,hv,hl1,hl2,hw,ha,w1,w3,w4,w5,w6,acc.flat,happ]
       refine hK _ _ ⟨?_,?_,?_,?_,low7,?_⟩
       all_goals simp -implicitDefEqProofs only[↓qA,ZZ,Nat.reduceBEq,reduceIte,Nat.reduceAdd,Nat.reduceLeDiff,Nat.reduceEqDiff,Nat.reduceBneDiff,h0,h1]
       exact acc7
   · have hl1:¬(i:Int)<(x.length:Int):=by omega
     rw[dS (l:=x) (by omega)]at hK
     by_cases q2:i<y.length
     · have hl2:(i:Int)<(y.length:Int):=by omega
       have hb:=zM (f:=g) (xQ q2)
       rw[show 0+atN y i+c=c+atN y i by omega]at hK
       obtain⟨w3,w4⟩:=key (c+atN y i) (by omega)
       generalize c+atN y i=d at *
       obtain⟨H7,happ,acc7,low7,hn7,car7⟩:=yV acc low (Nat.zero_le _) (d%10) (by omega) p1
       generalize hv:fr 5=v at *
       simp -implicitDefEqProofs only[nV,↓qA,ZZ,seval,CL,BS,h0,h1,h7,h6,hv,hl1,hl2,hw,hb,w2',w3,w4,w5,w6,acc.flat,happ]
       refine hK _ _ ⟨?_,?_,?_,?_,low7,?_⟩
       all_goals simp -implicitDefEqProofs only[↓qA,ZZ,Nat.reduceBEq,reduceIte,Nat.reduceAdd,Nat.reduceLeDiff,Nat.reduceEqDiff,Nat.reduceBneDiff,h0,h1]
       exact acc7
     · have hl2:¬(i:Int)<(y.length:Int):=by omega
       have hgt:(c:Int)>0:=by omega
       rw[dS (l:=y) (by omega)]at hK
       rw[show 0+0+c=c by omega]at hK
       obtain⟨w3,w4⟩:=key c (by omega)
       obtain⟨H7,happ,acc7,low7,hn7,car7⟩:=yV acc low (Nat.zero_le _) (c%10) (by omega) p1
       generalize hv:fr 5=v at *
       simp -implicitDefEqProofs only[nV,↓qA,ZZ,seval,CL,BS,h0,h1,h7,h6,hv,hl1,hl2,hgt,hw,w3,w4,w5,w6,acc.flat,happ]
       refine hK _ _ ⟨?_,?_,?_,?_,low7,?_⟩
       all_goals simp -implicitDefEqProofs only[↓qA,ZZ,Nat.reduceBEq,reduceIte,Nat.reduceAdd,Nat.reduceLeDiff,Nat.reduceEqDiff,Nat.reduceBneDiff,h0,h1]
       exact acc7
 · rintro fr H K' ⟨h0,h1,h7,h6,low,acc⟩ hKe hKr
   obtain⟨H',hs,kp⟩:=acc.shutV (by decide) (yK _)
   have hs':shutV (fr 5) H=some (vN true (zJ 10 x y N).1,H'):=by
    rw[hs];show some (AV.L true 1 _ N,H')=some (AV.L true 1 _ (zJ 10 x y N).1.length,H');rw[(hok _).1]
   rw[hend.2]at h6
   have hl1:¬(N:Int)<(x.length:Int):=by omega
   have hl2:¬(N:Int)<(y.length:Int):=by omega
   have hgt:¬((0:Nat):Int)>0:=by omega
   simp -implicitDefEqProofs only[nV,↓qA,ZZ,seval,CL,BS,h0,h1,h7,h6,hl1,hl2,hgt,hKe,xA,hs',Ends,qC]
   exact⟨_,rfl⟩
 · refine⟨?_,?_,?_,?_,HLow.bare,?_⟩
   all_goals simp -implicitDefEqProofs only[↓qA,ZZ,Nat.reduceBEq,reduceIte,Nat.reduceAdd,Nat.reduceLeDiff,Nat.reduceEqDiff,Nat.reduceBneDiff]
   · rfl
   · rfl
   · exact Acc.nil
theorem aEH {f:Bool}{l m:List Nat}(h:l.length=m.length):tf f l=tf f m:=by
 unfold tf
 cases l<;>cases m<;>simp at h ⊢
theorem a7a (f g : Bool) (x y : List Nat) (hx : Under 10 x) (hy : Under 10 y) (hlx : x.length ≤ 900000) (hly : y.length ≤ x.length) (hle : lval 10 y ≤ lval 10 x) : Ret P5 134 [vN f x, vN g y] (vN (tf true x) (limbs 10 (lval 10 x - lval 10 y))) := by
 have hB:2≤10:=by omega
 have hok:=uD hB hx hy
 have hend:=a3F hB hx hy hly hle
 have hres:xD (zX 10 x y x.length).1=limbs 10 (lval 10 x-lval 10 y):=by rw[←hend,vS hB (hok _).2.1]
 rw[←hres,aEH (hok x.length).1.symm]
 refine Ret.of rfl (aDf _ _) rfl rfl (fun H=>by simp -implicitDefEqProofs only[↓qA,ZZ,seval,BS]) ?_
 refine((a4I true (zX 10 x y x.length).1 (by rw[(hok _).1];omega)).and (Ev.ge (x.length+2))).mono fun n e H=> ?_
 obtain⟨e1,hge⟩:=e
 simp -implicitDefEqProofs only[c134,↓qA,ZZ,seval,BS]
 refine qM x.length (fun i fr H=>fr 0=vN f x∧fr 1=vN g y∧fr 7= .int .i64 i∧fr 6= .int .i64 ((zX 10 x y i).2:Nat)∧HLow H∧Acc 0 H 3 1 i ((zX 10 x y i).1.flatMap nat1) (fr 5)) ?_ ?_ n 0 _ _ (by omega) (by omega) ?_
 · rintro i fr H K' hi ⟨h0,h1,h7,h6,low,acc⟩ hKe hKr hK
   obtain⟨p1,p2,p3,p4⟩:=hok i
   have a1:=zK (by omega) hx i
   have a2:=zK (by omega) hy i
   have hlt:(i:Int)<(x.length:Int):=by omega
   have hw:=qY (i:=i) (n:=x.length) hi (by omega)
   have ha:=zM (f:=f) (xQ hi)
   have hnx:zX 10 x y (i+1)=((zX 10 x y i).1++[yA 10 (atN x i) (atN y i) (zX 10 x y i).2],yT (atN x i) (atN y i) (zX 10 x y i).2):=rfl
   rw[hnx]at hK
   generalize (zX 10 x y i).2=c at *
   generalize (zX 10 x y i).1=out at *
   generalize atN x i=a at *
   have w1:IntKind.i64.wrap ((a:Int)-(c:Int))=(a:Int)-c:=wrap64 (by omega) (by omega)
   have step:∀ b:Nat,b=atN y i→b<10→
    (∀ z:Int,z=(a:Int)-c-b→IntKind.i64.wrap z=z):=fun b hb hb2 z hz=>wrap64 (by omega) (by omega)
   by_cases q2:i<y.length
   · have hl2:(i:Int)<(y.length:Int):=by omega
     have hb':=zM (f:=g) (xQ q2)
     generalize atN y i=b at *
     have w2:IntKind.i64.wrap ((a:Int)-(c:Int)-(b:Int))=(a:Int)-c-b:=wrap64 (by omega) (by omega)
     obtain⟨H7,happ,acc7,low7,hn7,car7⟩:=yV acc low (Nat.zero_le _) (yA 10 a b c) (by omega) p1
     generalize hv:fr 5=v at *
     by_cases hb:b+c≤a
     · have hn:¬(a:Int)-c-b<0:=by omega
       have hE:(a:Int)-c-b=((yA 10 a b c:Nat):Int):=by unfold yA;rw[if_pos hb];omega
       have hB':yT a b c=0:=by unfold yT;rw[if_pos hb]
       rw[hB']at hK
       replace w2:=w2.trans hE
       rw[hE]at hn
       simp -implicitDefEqProofs only[nP,↓qA,ZZ,seval,CL,BS,h0,h1,h7,h6,hv,hlt,hl2,hw,ha,hb',w1,w2,hn,acc.flat,happ]
       refine hK _ _ ⟨?_,?_,?_,?_,low7,?_⟩
       all_goals simp -implicitDefEqProofs only[↓qA,ZZ,Nat.reduceBEq,reduceIte,Nat.reduceAdd,Nat.reduceLeDiff,Nat.reduceEqDiff,Nat.reduceBneDiff,h0,h1]
       · rfl
       · exact acc7
     · have hn:(a:Int)-c-b<0:=by omega
       have hE:IntKind.i64.wrap ((a:Int)-c-b+10)=((yA 10 a b c:Nat):Int):=by
        unfold yA;rw[if_neg hb,wrap64 (by omega) (by omega)];omega
       have hB':yT a b c=1:=by unfold yT;rw[if_neg hb]
       rw[hB']at hK
       simp -implicitDefEqProofs only[nP,↓qA,ZZ,seval,CL,BS,h0,h1,h7,h6,hv,hlt,hl2,hw,ha,hb',w1,w2,hn,hE,acc.flat,happ]
       refine hK _ _ ⟨?_,?_,?_,?_,low7,?_⟩
       all_goals simp -implicitDefEqProofs only[↓qA,ZZ,Nat.reduceBEq,reduceIte,Nat.reduceAdd,Nat.reduceLeDiff,Nat.reduceEqDiff,Nat.reduceBneDiff,h0,h1]
       · rfl
       · exact acc7
   · have hl2:¬(i:Int)<(y.length:Int):=by omega
     rw[dS (l:=y) (by omega)]at hK
     obtain⟨H7,happ,acc7,low7,hn7,car7⟩:=yV acc low (Nat.zero_le _) (yA 10 a 0 c) (by omega) p1
     generalize hv:fr 5=v at *
     by_cases hb:0+c≤a
     · have hn:¬(a:Int)-c<0:=by omega
       have hE:(a:Int)-c=((yA 10 a 0 c:Nat):Int):=by unfold yA;rw[if_pos hb];omega
       have hB':yT a 0 c=0:=by unfold yT;rw[if_pos hb]
       rw[hB']at hK
       replace w1:=w1.trans hE
       rw[hE]at hn
       simp -implicitDefEqProofs only[nP,↓qA,ZZ,seval,CL,BS,h0,h1,h7,h6,hv,hlt,hl2,hw,ha,w1,hn,acc.flat,happ]
       refine hK _ _ ⟨?_,?_,?_,?_,low7,?_⟩
       all_goals simp -implicitDefEqProofs only[↓qA,ZZ,Nat.reduceBEq,reduceIte,Nat.reduceAdd,Nat.reduceLeDiff,Nat.reduceEqDiff,Nat.reduceBneDiff,h0,h1]
       · rfl
       · exact acc7
     · have hn:(a:Int)-c<0:=by omega
       have hE:IntKind.i64.wrap ((a:Int)-c+10)=((yA 10 a 0 c:Nat):Int):=by
        unfold yA;rw[if_neg hb,wrap64 (by omega) (by omega)];omega
       have hB':yT a 0 c=1:=by unfold yT;rw[if_neg hb]
       rw[hB']at hK
       simp -implicitDefEqProofs only[nP,↓qA,ZZ,seval,CL,BS,h0,h1,h7,h6,hv,hlt,hl2,hw,ha,w1,hn,hE,acc.flat,happ]
       refine hK _ _ ⟨?_,?_,?_,?_,low7,?_⟩
       all_goals simp -implicitDefEqProofs only[↓qA,ZZ,Nat.reduceBEq,reduceIte,Nat.reduceAdd,Nat.reduceLeDiff,Nat.reduceEqDiff,Nat.reduceBneDiff,h0,h1]
       · rfl
       · exact acc7
 · rintro fr H K' ⟨h0,h1,h7,h6,low,acc⟩ hKe hKr
   obtain⟨H',hs,kp⟩:=acc.shutV (by decide) (yK _)
   have hs':shutV (fr 5) H=some (vN true (zX 10 x y x.length).1,H'):=by
    rw[hs];show some (AV.L true 1 _ x.length,H')=some (AV.L true 1 _ (zX 10 x y x.length).1.length,H');rw[(hok _).1]
   simp -implicitDefEqProofs only[nP,↓qA,ZZ,seval,CL,BS,h0,h1,h7,Int.lt_irrefl,hKe,xA,hs',e1,qC]
   exact⟨_,rfl⟩
 · refine⟨?_,?_,?_,?_,HLow.bare,?_⟩
   all_goals simp -implicitDefEqProofs only[↓qA,ZZ,Nat.reduceBEq,reduceIte,Nat.reduceAdd,Nat.reduceLeDiff,Nat.reduceEqDiff,Nat.reduceBneDiff]
   · rfl
   · rfl
   · exact Acc.nil
theorem a7S (f g : Bool) (x y : List Nat) (hx : Under 10 x) (hy : Under 10 y) (lx : Last x) (ly : Last y) (hlx : x.length ≤ 900000) (hly : y.length ≤ 900000) : Ret P5 132 [vN f x, vN g y] (.int .i64 (cmpN (lval 10 x) (lval 10 y))) := by
 have hB:2≤10:=by omega
 refine Ret.of rfl (aCn _ _) rfl rfl (fun H=>by simp -implicitDefEqProofs only[↓qA,ZZ,seval,BS]) ?_
 refine((aBb ((x.length:Int)-y.length)).and ((Ev.all (List.range x.length) fun i _=>aBb ((atN x i:Int)-atN y i)).and (Ev.ge (x.length+2)))).mono fun n e H=> ?_
 obtain⟨e1,e2,hge⟩:=e
 by_cases hl:x.length=y.length
 · have hne : ((x.length : Int) != (y.length : Int)) = false := by rw [hl]; simp
   simp -implicitDefEqProofs only[c132,↓qA,ZZ,seval,BS,hne]
   refine qM x.length (fun i fr H=>fr 0=vN f x∧fr 1=vN g y∧fr 5= .int .i64 (x.length-i:Nat)∧x.drop (x.length-i)=y.drop (x.length-i)) ?_ ?_ n 0 _ _ (by omega) (by omega) ?_
   · rintro i fr H K' hi ⟨h0,h1,h5,hd⟩ hKe hKr hK
     obtain⟨j,hj⟩:∃ j,j=x.length-(i+1):=⟨_,rfl⟩
     rw[show x.length-i=j+1 by omega]at h5 hd
     rw[←hj]at hK
     have hgt:((j+1:Nat):Int)>0:=by omega
     have hw:IntKind.i64.wrap (((j+1:Nat):Int)-1)=(j:Int):=by rw[wrap64 (by omega) (by omega)];omega
     have ha:=zM (f:=f) (xQ (l:=x) (i:=j) (by omega))
     have hb:=zM (f:=g) (xQ (l:=y) (i:=j) (by omega))
     have e3:=e2 j (List.mem_range.2 (by omega))
     have a1:=zK (by omega) hx j
     have a2:=zK (by omega) hy j
     have w1:IntKind.i64.wrap ((atN x j:Int)-atN y j)=(atN x j:Int)-atN y j:=wrap64 (by omega) (by omega)
     by_cases hq:atN x j=atN y j
     · have hE:((atN x j:Int) != (atN y j:Int))=false:=by rw[hq];simp
       simp -implicitDefEqProofs only[a0V,↓qA,ZZ,seval,CL,BS,h0,h1,h5,hgt,ha,hb,hE,hw]
       refine hK _ _ ⟨?_,?_,?_,?_⟩
       any_goals simp -implicitDefEqProofs only[↓qA,ZZ,Nat.reduceBEq,reduceIte,Nat.reduceAdd,Nat.reduceLeDiff,Nat.reduceEqDiff,Nat.reduceBneDiff,h0,h1]
       exact a5C hl (by omega) hd hq
     · have hE:((atN x j:Int) != (atN y j:Int))=true:=by simp;omega
       have hc:cmpN (lval 10 x) (lval 10 y)=sgn ((atN x j:Int)-atN y j):=by
        rcases Nat.lt_or_ge (atN x j) (atN y j)with h|h
        · have:=a4h hB hx (by omega) (by omega) hd h
          rw[bD (by omega),cmpN,if_pos this]
        · have:=a4h hB hy (by omega) (by omega) hd.symm (by omega)
          rw[dY (by omega),cmpN,if_neg (by omega),if_pos this]
       rw[hc]
       simp -implicitDefEqProofs only[a0V,↓qA,ZZ,seval,CL,BS,h0,h1,h5,hgt,ha,hb,hE,hw,w1,e3,hKr,qC]
       exact⟨_,rfl⟩
   · rintro fr H K' ⟨h0,h1,h5,hd⟩ hKe hKr
     rw[Nat.sub_self,List.drop_zero,List.drop_zero]at hd
     rw[Nat.sub_self]at h5
     subst hd
     have hc:cmpN (lval 10 x) (lval 10 x)=0:=by simp[cmpN]
     have hgt:¬((0:Nat):Int)>0:=by omega
     rw[hc]
     simp -implicitDefEqProofs only[a0V,↓qA,ZZ,seval,CL,BS,h0,h1,h5,hgt,hKe,xA,qC]
     exact⟨_,rfl⟩
   · refine⟨?_,?_,?_,?_⟩
     any_goals simp -implicitDefEqProofs only[↓qA,ZZ,Nat.reduceBEq,reduceIte,Nat.reduceAdd,Nat.reduceLeDiff,Nat.reduceEqDiff,Nat.reduceBneDiff]
     · simp
     · simp[hl]
 · have hne:((x.length:Int) != (y.length:Int))=true:=by simp;omega
   have hw0:IntKind.i64.wrap ((x.length:Int)-(y.length:Int))=(x.length:Int)-y.length:=wrap64 (by omega) (by omega)
   have hc:cmpN (lval 10 x) (lval 10 y)=sgn ((x.length:Int)-y.length):=by
    rcases Nat.lt_or_ge x.length y.length with h|h
    · have:=a0Z hB hx ly h
      rw[bD (by omega),cmpN,if_pos this]
    · have:=a0Z hB hy lx (by omega)
      rw[dY (by omega),cmpN,if_neg (by omega),if_pos this]
   rw[hc]
   simp -implicitDefEqProofs only[c132,↓qA,ZZ,seval,CL,BS,hne,hw0,e1,Ends,qC]
   exact⟨_,rfl⟩
theorem jW {a b:Nat}(h:a≤b):(limbs 10 a).length≤(limbs 10 b).length:=xW (by omega) (Nat.lt_of_le_of_lt h (tQ (by omega) b))
theorem aDw (p q f g:Bool) (a b:Nat) (ha:(limbs 10 a).length≤300000) (hb:(limbs 10 b).length≤300000):
 ∃ h z,Ret P5 131 [vN f (limbs 10 a),.bool p,vN g (limbs 10 b),.bool q] (.tuple [vN h z,.bool (sumS p a q b).1])∧Under 10 z∧lval 10 z=(sumS p a q b).2∧z.length≤600001:=by
 have hB:2≤10:=by omega
 have hua:=qL hB a
 have hub:=qL hB b
 have hva:=qN hB a
 have hvb:=qN hB b
 have k44:=a7S f g _ _ hua hub (zS hB a) (zS hB b) (by omega) (by omega)
 obtain⟨z,k54,hz1,hz2,hz3⟩:=aEQ f g _ _ hua hub ha hb
 rw[hva,hvb]at k44 hz2
 by_cases hpq:p=q
 · have hs:sumS p a q b=(p,a+b):=by unfold sumS;rw[if_pos hpq]
   rw[hs]
   refine⟨true,z,?_,hz1,hz2,by omega⟩
   refine Ret.of rfl (a3Y _ _) rfl rfl (fun H=>by simp -implicitDefEqProofs only[↓qA,ZZ,seval,BS]) (k54.mono fun n e1 H=> ?_)
   have hbe:(p==q)=true:=by rw[hpq];simp
   generalize limbs 10 a=X at *
   generalize limbs 10 b=Y at *
   simp -implicitDefEqProofs only[c131,↓qA,ZZ,seval,CL,BS,hbe,e1,Ends,qC]
   exact⟨_,rfl⟩
 · have hbe:(p==q)=false:=by simpa using hpq
   by_cases hl:a<b
   · have k45:=a7a g f _ _ hub hua (by omega) (jW (by omega)) (by rw[hva,hvb];omega)
     rw[hva,hvb]at k45
     have hs:sumS p a q b=(q,b-a):=by unfold sumS;rw[if_neg hpq,if_pos hl]
     rw[hs]
     refine⟨tf true (limbs 10 b),limbs 10 (b-a),?_,qL hB _,qN hB _,?_⟩
     · refine Ret.of rfl (a3Y _ _) rfl rfl (fun H=>by simp -implicitDefEqProofs only[↓qA,ZZ,seval,BS]) ((k44.and k45).mono fun n e H=> ?_)
       obtain⟨e1,e2⟩:=e
       have hc:¬cmpN a b≥0:=a4H hl
       generalize cmpN a b=cc at *
       generalize tf true (limbs 10 b)=tt at *
       generalize limbs 10 (b-a)=Z at *
       generalize limbs 10 a=X at *
       generalize limbs 10 b=Y at *
       simp -implicitDefEqProofs only[c131,↓qA,ZZ,seval,CL,BS,hbe,hc,e1,e2,Ends,qC]
       exact⟨_,rfl⟩
     · have:=jW (a:=b-a) (b:=b) (by omega)
       omega
   · have k45:=a7a f g _ _ hua hub (by omega) (jW (by omega)) (by rw[hva,hvb];omega)
     rw[hva,hvb]at k45
     have hs:sumS p a q b=(p,a-b):=by unfold sumS;rw[if_neg hpq,if_neg hl]
     rw[hs]
     refine⟨tf true (limbs 10 a),limbs 10 (a-b),?_,qL hB _,qN hB _,?_⟩
     · refine Ret.of rfl (a3Y _ _) rfl rfl (fun H=>by simp -implicitDefEqProofs only[↓qA,ZZ,seval,BS]) ((k44.and k45).mono fun n e H=> ?_)
       obtain⟨e1,e2⟩:=e
       have hc:cmpN a b≥0:=a3W (by omega)
       generalize cmpN a b=cc at *
       generalize tf true (limbs 10 a)=tt at *
       generalize limbs 10 (a-b)=Z at *
       generalize limbs 10 a=X at *
       generalize limbs 10 b=Y at *
       simp -implicitDefEqProofs only[c131,↓qA,ZZ,seval,CL,BS,hbe,hc,e1,e2,Ends,qC]
       exact⟨_,rfl⟩
     · have:=jW (a:=a-b) (b:=a) (by omega)
       omega
theorem aF3 (x y:Int) {k:Nat}(hx:x.natAbs<10^(k+1)) (hy:y.natAbs<10^(k+1)) (hk:k≤2000):Ret P5 101 [.str (decZ x),.str (decZ y)] (opT (x+y)):=by
 have hB:2≤10:=by omega
 have hl1:=xW hB hx
 have hl2:=xW hB hy
 obtain⟨h,z,k42,hz1,hz2,hz3⟩:=aDw (decide (x<0)) (decide (y<0)) false false x.natAbs y.natAbs (by omega) (by omega)
 have hv:=mM (decide (x<0)) x.natAbs (decide (y<0)) y.natAbs
 rw[gP,gP]at hv
 have htx:=a2o h (sumS (decide (x<0)) x.natAbs (decide (y<0)) y.natAbs).1 z hz1 (by omega)
 rw[hz2,hv]at htx
 refine Ret.of rfl (aBU _ _) rfl rfl (fun H=>by simp -implicitDefEqProofs only[↓qA,ZZ,seval]) ?_
 refine((vU x hx hk).and ((vU y hy hk).and (k42.and htx))).mono fun n e H=> ?_
 obtain⟨e1,e2,e3,e4⟩:=e
 unfold opT at e4 ⊢
 generalize (sumS (decide (x<0)) x.natAbs (decide (y<0)) y.natAbs).1=s at *
 generalize limbs 10 x.natAbs=X at *
 generalize limbs 10 y.natAbs=Y at *
 simp -implicitDefEqProofs only[c101,↓qA,ZZ,seval,CL,BS,e1,e2,e3,e4,Ends,qC]
 exact⟨_,rfl⟩
theorem aF8 (x y:Int) {k:Nat}(hx:x.natAbs<10^(k+1)) (hy:y.natAbs<10^(k+1)) (hk:k≤2000):Ret P5 102 [.str (decZ x),.str (decZ y)] (opT (x-y)):=by
 have hB:2≤10:=by omega
 have hl1:=xW hB hx
 have hl2:=xW hB hy
 obtain⟨h,z,k42,hz1,hz2,hz3⟩:=aDw (decide (x<0)) (!decide (y<0)) false false x.natAbs y.natAbs (by omega) (by omega)
 have hv:=mM (decide (x<0)) x.natAbs (!decide (y<0)) y.natAbs
 rw[gP,a1o true]at hv
 have htx:=a2o h (sumS (decide (x<0)) x.natAbs (!decide (y<0)) y.natAbs).1 z hz1 (by omega)
 rw[hz2,hv,show x+ -y=x-y by omega]at htx
 refine Ret.of rfl (aBX _ _) rfl rfl (fun H=>by simp -implicitDefEqProofs only[↓qA,ZZ,seval]) ?_
 refine((vU x hx hk).and ((vU y hy hk).and (k42.and htx))).mono fun n e H=> ?_
 obtain⟨e1,e2,e3,e4⟩:=e
 unfold opT at e4 ⊢
 generalize (sumS (decide (x<0)) x.natAbs (!decide (y<0)) y.natAbs).1=s at *
 generalize limbs 10 x.natAbs=X at *
 generalize limbs 10 y.natAbs=Y at *
 simp -implicitDefEqProofs only[c102,↓qA,ZZ,seval,CL,BS,e1,e2,e3,e4,Ends,qC]
 exact⟨_,rfl⟩
theorem aA0 (a b:Nat):cmpN a b=sgn ((a:Int)-b):=by
 unfold cmpN
 by_cases h:a<b
 · rw[if_pos h,bD (by omega)]
 · rw[if_neg h]
   by_cases h2:b<a
   · rw[if_pos h2,dY (by omega)]
   · rw[if_neg h2]
     have:(a:Int)-b=0:=by omega
     rw[this];rfl
theorem aFj (x y:Int) {k:Nat}(hx:x.natAbs<10^(k+1)) (hy:y.natAbs<10^(k+1)) (hk:k≤2000):Ret P5 104 [.str (decZ x),.str (decZ y)] (.int .i64 (sgn (x-y))):=by
 have hB:2≤10:=by omega
 have hl1:=xW hB hx
 have hl2:=xW hB hy
 have k1:=a7S false false _ _ (qL hB x.natAbs) (qL hB y.natAbs) (zS hB _) (zS hB _) (by omega) (by omega)
 have k2:=a7S false false _ _ (qL hB y.natAbs) (qL hB x.natAbs) (zS hB _) (zS hB _) (by omega) (by omega)
 rw[qN hB,qN hB,aA0]at k1 k2
 refine Ret.of rfl (aBQ _ _) rfl rfl (fun H=>by simp -implicitDefEqProofs only[↓qA,ZZ,seval]) ?_
 refine((vU x hx hk).and ((vU y hy hk).and (k1.and k2))).mono fun n e H=> ?_
 obtain⟨e1,e2,e3,e4⟩:=e
 by_cases hx0:x<0
 · by_cases hy0:y<0
   · rw[decide_eq_true hx0]at e1
     rw[decide_eq_true hy0]at e2
     rw[show((y.natAbs:Int)-x.natAbs)=x-y by omega]at e4
     generalize sgn (x-y)=s at *
     generalize limbs 10 x.natAbs=X at *
     generalize limbs 10 y.natAbs=Y at *
     simp -implicitDefEqProofs only[c104,↓qA,ZZ,seval,CL,BS,e1,e2,e4,bne_self_eq_false,Ends,qC]
     exact⟨_,rfl⟩
   · rw[decide_eq_true hx0]at e1
     rw[decide_eq_false hy0]at e2
     rw[bD (z:=x-y) (by omega)]
     generalize limbs 10 x.natAbs=X at *
     generalize limbs 10 y.natAbs=Y at *
     simp -implicitDefEqProofs only[c104,↓qA,ZZ,seval,CL,BS,e1,e2,Ends,qC]
     exact⟨_,rfl⟩
 · by_cases hy0:y<0
   · rw[decide_eq_false hx0]at e1
     rw[decide_eq_true hy0]at e2
     rw[dY (z:=x-y) (by omega)]
     generalize limbs 10 x.natAbs=X at *
     generalize limbs 10 y.natAbs=Y at *
     simp -implicitDefEqProofs only[c104,↓qA,ZZ,seval,CL,BS,e1,e2,Ends,qC]
     exact⟨_,rfl⟩
   · rw[decide_eq_false hx0]at e1
     rw[decide_eq_false hy0]at e2
     rw[show((x.natAbs:Int)-y.natAbs)=x-y by omega]at e3
     generalize sgn (x-y)=s at *
     generalize limbs 10 x.natAbs=X at *
     generalize limbs 10 y.natAbs=Y at *
     simp -implicitDefEqProofs only[c104,↓qA,ZZ,seval,CL,BS,e1,e2,e3,Ends,qC]
     exact⟨_,rfl⟩
end Go.Lite
/-
  The document's quotient and rest.
-/
namespace Go.Lite
open Go Go.Proofs
theorem a9j {l:List Nat}{j:Nat}(h:j<l.length):lval 10 (l.drop j)=atN l j+10*lval 10 (l.drop (j+1)):=by
 have a:=xQ h
 rw[List.getElem?_eq_getElem h]at a
 simp only[Option.some.injEq]at a
 rw[List.drop_eq_getElem_cons h,a]
 rfl
def remW (X:List Nat) (b i:Nat):Nat:=lval 10 (X.drop (X.length-i))%b
def inW (X:List Nat) (b i:Nat):Nat:=10*remW X b i+atN X (X.length-(i+1))
def quoW (X:List Nat) (b:Nat):Nat→List Nat
 | 0=>[]
 | i+1=>(inW X b i/b)::quoW X b i
theorem uQ (X:List Nat) (b:Nat):∀ i,(quoW X b i).length=i
 | 0=>rfl
 | i+1=>by rw[quoW,List.length_cons,uQ X b i]
theorem a8V (X:List Nat) (b:Nat):remW X b 0=0:=by
 unfold remW
 rw[List.drop_of_length_le (by omega)]
 simp[lval]
theorem a2W {X:List Nat}{b i:Nat}(hi:i<X.length):lval 10 (X.drop (X.length-(i+1)))=inW X b i+b*(10*(lval 10 (X.drop (X.length-i))/b)):=by
 have h1:=a9j (l:=X) (j:=X.length-(i+1)) (by omega)
 rw[show X.length-(i+1)+1=X.length-i by omega]at h1
 have h2:=Nat.div_add_mod (lval 10 (X.drop (X.length-i))) b
 have h3:b*(10*(lval 10 (X.drop (X.length-i))/b))=10*(b*(lval 10 (X.drop (X.length-i))/b)):=Nat.mul_left_comm ..
 unfold inW remW
 rw[h3,h1]
 omega
theorem a9t {X:List Nat}{b i:Nat}(hi:i<X.length):remW X b (i+1)=inW X b i%b:=by
 have h:=a2W (b:=b) hi
 show lval 10 (X.drop (X.length-(i+1)))%b=_
 rw[h,Nat.add_mul_mod_self_left]
theorem a4V {X:List Nat}{b:Nat}(hb:0<b):∀ i,i≤X.length→lval 10 (quoW X b i)=lval 10 (X.drop (X.length-i))/b
 | 0,_=>by
   rw[List.drop_of_length_le (by omega)]
   simp[quoW,lval]
 | i+1,hi=>by
   have h:=a2W (b:=b) (X:=X) (i:=i) (by omega)
   rw[h,Nat.add_mul_div_left _ _ hb,←a4V hb i (by omega)]
   rfl
theorem a9T {X:List Nat}(h:Under 10 X) {b i:Nat}(hb:0<b):inW X b i<10*b:=by
 have h1:remW X b i<b:=Nat.mod_lt _ hb
 have h2:=zK (by omega) h (X.length-(i+1))
 unfold inW;omega
theorem a7Y {X:List Nat}(h:Under 10 X) {b i:Nat}(hb:0<b):inW X b i/b<10:=by
 rw[Nat.div_lt_iff_lt_mul hb];exact a9T h hb
theorem a2a {X:List Nat}(h:Under 10 X) {b:Nat}(hb:0<b):∀ i,Under 10 (quoW X b i)
 | 0=> .nil
 | i+1=>fun d hd=>by
   rw[quoW,List.mem_cons]at hd
   rcases hd with rfl|hd
   · exact a7Y h hb
   · exact a2a h hb i d hd
theorem a6n {Z:List Nat}{H:Heap}{k:Nat}(hk:H.t.get k=some (.row (Z.flatMap nat1) 0 false none)):∃ f,shutV (.slice (.new k) 0 Z.length (.fix Z.length 1)) H=some (vN f Z,H.put k (.row (Z.flatMap nat1) 0 true none)):=by
 cases Z with
 | nil=>exact⟨(Cap.fix 0 1).full 0,by
   have key:∀ d,xE (d+1) (.slice (.new k) 0 ([]:List Nat).length (.fix ([]:List Nat).length 1)) H=some (vN ((Cap.fix 0 1).full 0) [],H.put k (.row (([]:List Nat).flatMap nat1) 0 true none)):=fun d=>by simp only[xE,hk];rfl
   exact key 2047⟩
 | cons z Z=>exact⟨true,a00 (by simp) hk⟩
theorem a9p {G:Heap}(low:HLow G) (d:Nat) (l:List Nat) (hb:l.length≤1000000):
 ∃ v G', xC 3 1 8 G (.lst 1 1 true [.int .i64 (d : Int)]) (l.length, l.flatMap nat1) = some (v, G') ∧ v.flat = true ∧
   ∃ G2,shutV v G'=some (vN true (d::l),G2)∧HLow G2∧∀ j o,G.t.get j=some o→G2.t.get j=some o:=by
 have hfl:(l.flatMap nat1).all AV.flat=true:=by
  rw[List.all_eq_true]
  intro x hx
  obtain⟨a,_,ha⟩:=List.mem_flatMap.1 hx
  simp only[nat1,List.mem_singleton]at ha
  subst ha;rfl
 unfold xC
 rw[if_neg (by simp[hfl])]
 simp only[]
 by_cases h0:l.length=0
 · rw[if_pos h0]
   obtain rfl:=List.eq_nil_of_length_eq_zero h0
   exact⟨_,_,rfl,rfl,G,rfl,low,fun j o h=>h⟩
 · rw[if_neg h0,if_pos ⟨.inl trivial,trivial,by omega,by omega⟩]
   refine⟨_,_,rfl,rfl,?_⟩
   have hl:([AV.int .i64 (d:Int)]++l.flatMap nat1).length=1+l.length:=by rw[List.length_append,gU];rfl
   have acc:Acc 0 (G.push (.row ([AV.int .i64 (d:Int)]++l.flatMap nat1) 1 false (some 3))) 3 1 (1+l.length) ((d::l).flatMap nat1) (.slice (.new G.n) 0 (1+l.length) (.gro 1)):=
    .inr ⟨by omega,by rw[gU,List.length_cons];omega,G.n,rfl,Nat.zero_le _,by rw[qF,if_pos rfl];rfl⟩
   obtain⟨H',hs,kp⟩:=acc.shutV (by decide) (yK _)
   refine⟨H',?_,kp.low low.push,fun j o hg=> ?_⟩
   · show shutV (.slice (.new G.n) 0 (1+l.length) (.gro 1)) _=_
     rw[hs]
     show some (AV.L true 1 _ (1+l.length),H')=some (AV.L true 1 _ (l.length+1),H')
     rw[Nat.add_comm]
   · have hj:=low j _ hg
     exact kp.get j o (by rw[qF,if_neg (by omega)];exact hg) (by rintro⟨o',m,c,he⟩;simp only[AV.slice.injEq,Blk.new.injEq]at he;omega)
theorem aDu {n m v b j:Nat}{s7 s8 s10:AV}{Z:List Nat}{fr:Fr}{H:Heap}{KK:Ex→Fr→Heap→R}{Q:AV→Heap→Prop}(hb:0<b) (hv:v/b<10) (hm:12≤m) (hj:j<Z.length) (hZ:Z.length≤900000) (hz0:atN Z j=0)
 (e44:∀ k,k<11→k*b≤v→∀ H,qB P5 n 132 [vN false (limbs 10 (v-k*b)),vN false (limbs 10 b)] H=some (.ret (.int .i64 (cmpN (v-k*b) b)),H))
 (e45:∀ k,k<11→(k+1)*b≤v→∀ H,qB P5 n 134 [vN false (limbs 10 (v-k*b)),vN false (limbs 10 b)] H=some (.ret (vN false (limbs 10 (v-(k+1)*b))),H))
 (h7:fr 7=s7) (h8:fr 8=s8) (h9:fr 9=vN false (limbs 10 b)) (h10:fr 10=s10) (h11:fr 11= .slice (.new 0) 0 Z.length (.fix Z.length 1)) (h12:fr 12=vN false (limbs 10 v)) (h13:fr 13= .int .i64 (j+1:Nat))
 (g0:H.t.get 0=some (.row (Z.flatMap nat1) 0 false none)) (low:HLow H)
 (hK:∀ (fr:Fr) (H:Heap),fr 7=s7→fr 8=s8→fr 9=vN false (limbs 10 b)→fr 10=s10→fr 11= .slice (.new 0) 0 Z.length (.fix Z.length 1)→fr 12=vN false (limbs 10 (v%b))→fr 13= .int .i64 (j+1:Nat)→
   H.t.get 0=some (.row ((Z.set j (v/b)).flatMap nat1) 0 false none)→HLow H→Gives (KK (.exit 2) fr H) Q):
 Gives (zQ (qB P5 n) n a0P m fr H KK) Q:=by
 have hle:∀ k,k≤v/b→k*b≤v:=fun k h=>Nat.le_trans (Nat.mul_le_mul_right b h) (Nat.div_mul_le_self v b)
 have hw13:IntKind.i64.wrap (((j+1:Nat):Int)-1)=(j:Int):=by rw[wrap64 (by omega) (by omega)];omega
 refine qM (v/b) (fun k fr H=>fr 7=s7∧fr 8=s8∧fr 9=vN false (limbs 10 b)∧fr 10=s10∧fr 11= .slice (.new 0) 0 Z.length (.fix Z.length 1)∧fr 12=vN false (limbs 10 (v-k*b))∧fr 13= .int .i64 (j+1:Nat)∧H.t.get 0=some (.row ((Z.set j k).flatMap nat1) 0 false none)∧HLow H) ?_ ?_ m 0 _ _ (Nat.zero_le _) (by omega) ⟨h7,h8,h9,h10,h11,by simpa using h12,h13,?_,low⟩
 · rintro k fr H K' hi ⟨h7,h8,h9,h10,h11,h12,h13,g0,low⟩ hKe hKr hK'
   have e1:=e44 k (by omega) (hle k (by omega))
   have e2:=e45 k (by omega) (hle (k+1) (by omega))
   have hc:cmpN (v-k*b) b≥0:=a3W (by have:=hle (k+1) (by omega);rw[Nat.succ_mul]at this;omega)
   have hw:IntKind.i64.wrap ((k:Int)+1)=((k+1:Nat):Int):=qY (n:=k+1) (by omega) (by omega)
   have hsl:(Z.set j k).length=Z.length:=List.length_set
   have hat':=a4a (Z:=Z.set j k) (p:=j) (by omega)
   rw[a7x hj]at hat'
   have hset':=a1G (Z:=Z.set j k) (p:=j) (v:=k+1) (by omega)
   rw[List.set_set]at hset'
   have hlen:=gU (Z.set j k)
   have hplC:j+1≤((Z.set j k).flatMap nat1).length:=by omega
   have h0:=low.lt g0
   generalize hC:(Z.set j k).flatMap nat1=C at *
   generalize hC':(Z.set j (k+1)).flatMap nat1=C' at *
   generalize cmpN (v-k*b) b=c at *
   simp -implicitDefEqProofs only[a0P,↓qA,ZZ,seval,CL,BS,Nat.mul_one,h9,h11,h12,h13,g0,e1,e2,hc,hw,hw13,hj,hat',hplC,hset']
   refine hK' _ _ ⟨?_,?_,?_,?_,?_,?_,?_,?_,low.put h0⟩
   all_goals simp -implicitDefEqProofs only[↓qA,ZZ,Nat.reduceBEq,reduceIte,Nat.reduceAdd,Nat.reduceLeDiff,Nat.reduceEqDiff,Nat.reduceBneDiff,h7,h8,h9,h10,h11,h13]
 · rintro fr H K' ⟨h7,h8,h9,h10,h11,h12,h13,g0,low⟩ hKe hKr
   have e1:=e44 (v/b) (by omega) (hle _ (Nat.le_refl _))
   have hm:v-v/b*b=v%b:=by
    have:=Nat.div_add_mod v b
    rw[Nat.mul_comm]at this;omega
   rw[hm]at e1 h12
   have hc:¬cmpN (v%b) b≥0:=a4H (Nat.mod_lt _ hb)
   generalize cmpN (v%b) b=c at *
   simp -implicitDefEqProofs only[a0P,↓qA,ZZ,seval,CL,BS,h9,h12,e1,hc,hKe]
   refine hK _ _ ?_ ?_ ?_ ?_ ?_ ?_ ?_ g0 low
   all_goals simp -implicitDefEqProofs only[↓qA,ZZ,Nat.reduceBEq,reduceIte,Nat.reduceAdd,Nat.reduceLeDiff,Nat.reduceEqDiff,Nat.reduceBneDiff,h7,h8,h9,h10,h11,h12,h13]
 · rw[a5x (by rw[xQ hj,hz0])];exact g0
def RN (v:AV) (l:List Nat):Prop:=(∀ H,taken 1 H v=some (l.length,l.flatMap nat1))∧v.flat=true∧∃ f,∀ H,shutV v H=some (vN f l,H)
theorem RN.vN (f:Bool) (l:List Nat):RN (vN f l) l:=⟨fun H=>a6a,aAg,f,fun H=>a2j⟩
theorem RN.nils:RN .nils []:=⟨fun H=>rfl,rfl,true,fun H=>rfl⟩
theorem a8q (j:Nat) (q:List Nat) (v:Nat):(List.replicate (j+1) 0++q).set j v=List.replicate j 0++v::q:=by
 rw[List.replicate_succ',List.append_assoc,List.set_append_right _ _ (by simp)]
 simp
theorem aFX (x y : Int) {k : Nat} (hx : x.natAbs < 10 ^ (k + 1)) (hy : y.natAbs < 10 ^ (k + 1)) (hk : k ≤ 1000) (hy0 : y ≠ 0) : Ret P5 105 [.str (decZ x), .str (decZ y)] (.tuple [.str (opZ (x.tdiv y)), .str (opZ (x.tmod y)), .bool true]) := by
 have hB:2≤10:=by omega
 have hqv:=a7J x y
 have hrv:=a7E x y
 have d1:=vU x hx (by omega)
 have d2:=vU y hy (by omega)
 have hl1:=xW hB hx
 have hl2:=xW hB hy
 have hux:=qL hB x.natAbs
 have huy:=qL hB y.natAbs
 have hvx:=qN hB x.natAbs
 have hb0:0<y.natAbs:=by omega
 have hpk:(10:Nat)^(k+2)=10^(k+1)*10:=Nat.pow_succ ..
 have hsm:∀ w,w<10*y.natAbs→(limbs 10 w).length≤k+2:=fun w hw=>xW hB (by omega)
 generalize hX:limbs 10 x.natAbs=X at *
 generalize hb:y.natAbs=b at *
 generalize x.natAbs=a at *
 have hquo:=a4V (X:=X) hb0 X.length (Nat.le_refl _)
 have hqu:=a2a hux hb0 X.length
 have hrem:remW X b X.length=a%b:=by unfold remW;rw[Nat.sub_self,List.drop_zero,hvx]
 rw[Nat.sub_self,List.drop_zero,hvx]at hquo
 have ht1:=fun f=>a2o f (!(decide (x<0)==decide (y<0))) (quoW X b X.length) hqu (by rw[uQ];omega)
 have ht2:=fun f=>a2o f (decide (x<0)) (limbs 10 (a%b)) (qL hB _) (by have:=hsm (a%b) (by have:=Nat.mod_lt a hb0;omega);omega)
 rw[hquo,hqv]at ht1
 rw[qN hB,hrv]at ht2
 unfold opT at ht1 ht2
 have steps:Ev fun n=>∀ i,i<X.length→
  (∀ H,qB P5 n 133 [vN true (atN X (X.length-(i+1))::limbs 10 (remW X b i))] H=some (.ret (vN false (limbs 10 (inW X b i))),H))∧
  (∀ k,k<11→k*b≤inW X b i→∀ H,qB P5 n 132 [vN false (limbs 10 (inW X b i-k*b)),vN false (limbs 10 b)] H=some (.ret (.int .i64 (cmpN (inW X b i-k*b) b)),H))∧
  (∀ k,k<11→(k+1)*b≤inW X b i→∀ H,qB P5 n 134 [vN false (limbs 10 (inW X b i-k*b)),vN false (limbs 10 b)] H=some (.ret (vN false (limbs 10 (inW X b i-(k+1)*b))),H)):=by
  have key:=Ev.all (List.range X.length) (p:=fun i n=>
   (∀ H,qB P5 n 133 [vN true (atN X (X.length-(i+1))::limbs 10 (remW X b i))] H=some (.ret (vN false (limbs 10 (inW X b i))),H))∧
   (∀ k,k<11→k*b≤inW X b i→∀ H,qB P5 n 132 [vN false (limbs 10 (inW X b i-k*b)),vN false (limbs 10 b)] H=some (.ret (.int .i64 (cmpN (inW X b i-k*b) b)),H))∧
   (∀ k,k<11→(k+1)*b≤inW X b i→∀ H,qB P5 n 134 [vN false (limbs 10 (inW X b i-k*b)),vN false (limbs 10 b)] H=some (.ret (vN false (limbs 10 (inW X b i-(k+1)*b))),H))) ?_
  · exact key.mono fun n h i hi=>h i (List.mem_range.2 hi)
  · intro i hi
    replace hi:=List.mem_range.1 hi
    have hr:remW X b i<b:=Nat.mod_lt _ hb0
    have hd:=zK (by omega) hux (X.length-(i+1))
    have hin:=a9T hux (i:=i) hb0
    have hinv:inW X b i=10*remW X b i+atN X (X.length-(i+1)):=rfl
    rw[hinv]at hin ⊢
    generalize remW X b i=r at *
    generalize atN X (X.length-(i+1))=c at *
    have hlr:=hsm r (by omega)
    have p1:=a4I true (c::limbs 10 r) (by rw[List.length_cons];omega)
    have hu1:Under 10 (c::limbs 10 r):=fun d hd'=>by
     rcases List.mem_cons.1 hd' with rfl|h
     · exact hd
     · exact qL hB r d h
    have hv1:lval 10 (c::limbs 10 r)=10*r+c:=by
     show c+10*lval 10 (limbs 10 r)=_
     rw[qN hB];omega
    rw[←vS hB hu1,hv1,show tf true (c::limbs 10 r)=false from rfl]at p1
    have hlb:=hsm b (by omega)
    have p6:=Ev.all (List.range 11) fun k _=>a7S false false _ _ (qL hB (10*r+c-k*b)) (qL hB b) (zS hB _) (zS hB _) (by have:=hsm (10*r+c-k*b) (by omega);omega) (by omega)
    have p7:=Ev.all (List.range 11) (p:=fun k n=>(k+1)*b≤10*r+c→∀ H,qB P5 n 134 [vN false (limbs 10 (10*r+c-k*b)),vN false (limbs 10 b)] H=some (.ret (vN false (limbs 10 (10*r+c-(k+1)*b))),H)) fun k _=>by
     have hmul:(k+1)*b=k*b+b:=Nat.succ_mul k b
     rw[hmul]
     by_cases hle:k*b+b≤10*r+c
     · have:=a7a false false _ _ (qL hB (10*r+c-k*b)) (qL hB b) (by have:=hsm (10*r+c-k*b) (by omega);omega) (jW (by omega)) (by rw[qN hB,qN hB];omega)
       rw[qN hB,qN hB,show 10*r+c-k*b-b=10*r+c-(k*b+b)by omega]at this
       have htf:tf true (limbs 10 (10*r+c-k*b))=false:=by
        rw[yN hB (by omega)];rfl
       rw[htf]at this
       exact this.mono fun n h _=>h
     · exact Ev.of fun n h=>absurd h hle
    exact(p1.and (p6.and p7)).mono fun n h=>
     ⟨h.1,fun k hk _ H=>by have:=h.2.1 k (List.mem_range.2 hk) H;rwa [qN hB,qN hB]at this,fun k hk=>h.2.2 k (List.mem_range.2 hk)⟩
 refine Ret.of rfl (a7X _ _) rfl rfl (fun H=>by simp -implicitDefEqProofs only[↓qA,ZZ,seval]) ?_
 refine(d1.and (d2.and ((ht1 true).and ((ht1 false).and ((ht2 true).and ((ht2 false).and (steps.and (Ev.ge (X.length+20))))))))).mono fun n e H=> ?_
 obtain⟨e1,e2,e3t,e3f,e5t,e5f,e7,hge⟩:=e
 have e3:∀ f H,qB P5 n 130 [vN f (quoW X b X.length)  ,.bool (!(decide (x<0)==decide (y<0)))] H=some (.ret (.tuple [.str (opZ (x.tdiv y)),.bool (decide ((x.tdiv y).natAbs<10^200))]),H):=fun f=>by cases f;exact e3f;exact e3t
 have e5:∀ f H,qB P5 n 130 [vN f (limbs 10 (a%b)),.bool (decide (x<0))] H=some (.ret (.tuple [.str (opZ (x.tmod y)),.bool (decide ((x.tmod y).natAbs<10^200))]),H):=fun f=>by cases f;exact e5f;exact e5t
 clear e3t e3f e5t e5f
 generalize decZ x=sx at *
 generalize decZ y=sy at *
 have hYne:(((limbs 10 b).length:Int)==0)=false:=by rw[yN hB hb0];simp;omega
 have k1:X.length*8≤1099511627776∧X.length≤1099511627776:=by omega
 simp -implicitDefEqProofs only[c105,↓qA,ZZ,seval,CL,BS,e1,e2,hYne,k1.1,k1.2,nN]
 refine uT (fun e fr H=>e= .exit 0∧fr 8= .bool (decide (x<0))∧fr 10= .bool (decide (y<0))∧fr 11= .slice (.new 0) 0 X.length (.fix X.length 1)∧RN (fr 12) (limbs 10 (a%b))∧H.t.get 0=some (.row ((quoW X b X.length).flatMap nat1) 0 false none)) ?_ fun KK fin=> ?_
 · rintro e fr H ⟨rfl,h8,h10,h11,⟨t12,f12,f,h12⟩,g0⟩
   obtain⟨f',hsh⟩:=a6n g0
   rw[uQ]at hsh
   simp -implicitDefEqProofs only[↓qA,ZZ,seval,CL,BS,xA,h8,h10,h11,t12,f12,h12,hsh,e3,e5,qC]
   exact⟨_,rfl⟩
 · refine qM X.length (fun i fr H=>fr 7=vN false X∧fr 8= .bool (decide (x<0))∧fr 9=vN false (limbs 10 b)∧fr 10= .bool (decide (y<0))∧fr 11= .slice (.new 0) 0 X.length (.fix X.length 1)∧RN (fr 12) (limbs 10 (remW X b i))∧fr 13= .int .i64 (X.length-i:Nat)∧H.t.get 0=some (.row ((List.replicate (X.length-i) 0++quoW X b i).flatMap nat1) 0 false none)∧HLow H) ?_ ?_ n 0 _ _ (by omega) (by omega) ?_
   · rintro i fr H K' hi ⟨h7,h8,h9,h10,h11,⟨t12,f12,f,h12⟩,h13,g0,low⟩ hKe hKr hK
     obtain⟨s1,s2,s3⟩:=e7 i hi
     obtain⟨j,hj⟩:∃ j,j=X.length-(i+1):=⟨_,rfl⟩
     rw[←hj]at s1 hK
     rw[show X.length-i=j+1 by omega]at h13 g0
     have hgt:((j+1:Nat):Int)>0:=by omega
     have hw:IntKind.i64.wrap (((j+1:Nat):Int)-1)=(j:Int):=by rw[wrap64 (by omega) (by omega)];omega
     have ha:=zM (f:=false) (xQ (l:=X) (i:=j) (by omega))
     have hv10:=a7Y hux (i:=i) hb0
     have hrl:(limbs 10 (remW X b i)).length≤k+2:=hsm _ (by have:remW X b i<b:=Nat.mod_lt _ hb0;omega)
     obtain⟨v,G',happ,hvf,G2,hsh,low2,keep2⟩:=a9p (low.push (ob:= .row [.int .i64 (atN X j:Nat)] 0 true none)) (atN X j) (limbs 10 (remW X b i)) (by omega)
     have hZl:(List.replicate (j+1) 0++quoW X b i).length=X.length:=by rw[List.length_append,List.length_replicate,uQ];omega
     simp -implicitDefEqProofs only[a4f,↓qA,ZZ,seval,CL,BS,h7,t12,f12,h13,hgt,hw,ha,happ,hvf,hsh,s1]
     refine aDu (v:=inW X b i) (b:=b) (j:=j) (s7:=vN false X) (s8:= .bool (decide (x<0))) (s10:= .bool (decide (y<0))) (Z:=List.replicate (j+1) 0++quoW X b i) hb0 hv10 (by omega) ?_ ?_ ?_ s2 s3 ?_ ?_ ?_ ?_ ?_ ?_ ?_ ?_ low2 ?_
     · rw[hZl];omega
     · rw[hZl];omega
     · unfold atN
       rw[List.getElem?_append_left (by simp),List.getElem?_replicate,if_pos (by omega)];rfl
     · simp -implicitDefEqProofs only[↓qA,ZZ,seval,h7]
     · simp -implicitDefEqProofs only[↓qA,ZZ,seval,h8]
     · simp -implicitDefEqProofs only[↓qA,ZZ,seval,h9]
     · simp -implicitDefEqProofs only[↓qA,ZZ,seval,h10]
     · rw[hZl];simp -implicitDefEqProofs only[↓qA,ZZ,seval,h11]
     · simp -implicitDefEqProofs only[↓qA,ZZ,seval]
     · simp -implicitDefEqProofs only[↓qA,ZZ,seval,h13]
     · exact keep2 _ _ (by rw[qF,if_neg (by have:=low.lt g0;omega)];exact g0)
     · rw[hZl,a8q]
       rintro fr H h7 h8 h9 h10 h11 h12 h13 g0 low
       simp -implicitDefEqProofs only[↓qA,ZZ,seval,xA,h13,hw]
       refine hK _ _ ⟨?_,?_,?_,?_,?_,?_,?_,?_,low⟩
       any_goals simp -implicitDefEqProofs only[↓qA,ZZ,Nat.reduceBEq,reduceIte,Nat.reduceAdd,Nat.reduceLeDiff,Nat.reduceEqDiff,Nat.reduceBneDiff,h7,h8,h9,h10,h11,h12,a9t hi]
       · exact RN.vN _ _
       exact g0
   · rintro fr H K' ⟨h7,h8,h9,h10,h11,h12,h13,g0,low⟩ hKe hKr
     rw[Nat.sub_self]at h13 g0
     rw[hrem]at h12
     have hgt:¬((0:Nat):Int)>0:=by omega
     simp -implicitDefEqProofs only[a4f,↓qA,ZZ,seval,h13,hgt,hKe]
     refine fin _ _ _ ⟨rfl,?_,?_,?_,?_,by simpa using g0⟩
     · simp -implicitDefEqProofs only[↓qA,ZZ,seval,h8]
     · simp -implicitDefEqProofs only[↓qA,ZZ,seval,h10]
     · simp -implicitDefEqProofs only[↓qA,ZZ,seval,h11]
     · simp -implicitDefEqProofs only[↓qA,ZZ,seval];exact h12
   · refine⟨?_,?_,?_,?_,?_,?_,?_,?_,?_⟩
     any_goals simp -implicitDefEqProofs only[↓qA,ZZ,Nat.reduceBEq,reduceIte,Nat.reduceAdd,Nat.reduceLeDiff,Nat.reduceEqDiff,Nat.reduceBneDiff]
     · rw[a8V,zT];exact RN.nils
     · rw[Nat.sub_zero]
     · rw[Nat.sub_zero,quoW,List.append_nil]
     · exact HLow.bare.push
theorem a6j (x:Int) {k:Nat}(hx:x.natAbs<10^(k+1)) (hk:k≤1000):Ret P5 105 [.str (decZ x),.str (decZ 0)] (.tuple [.str [],.str [],.bool false]):=by
 have d1:=vU x hx (by omega)
 have d2:=vU 0 (k:=1) (by decide) (by omega)
 have hz0:limbs 10 (Int.natAbs 0)=[]:=zT 10
 rw[hz0]at d2
 refine Ret.of rfl (a7X _ _) rfl rfl (fun H=>by simp -implicitDefEqProofs only[↓qA,ZZ,seval]) ((d1.and d2).mono fun n e H=> ?_)
 obtain⟨e1,e2⟩:=e
 generalize decZ x=sx at *
 generalize decZ 0=sy at *
 generalize limbs 10 x.natAbs=X at *
 have hz:(((0:Nat):Int)==0)=true:=rfl
 simp -implicitDefEqProofs only[c105,↓qA,ZZ,seval,CL,BS,mZ,e1,e2,hz,Ends,qC]
 exact⟨_,rfl⟩
end Go.Lite
